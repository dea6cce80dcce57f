/- Monitors: whether a try is zero, or right. -/
import Derived.Test.YtnhhmpoknmfmaaaE1M2
namespace Go.Ae.E1
set_option linter.unusedSimpArgs false
set_option linter.unusedVariables false
set_option maxRecDepth 10000
structure GMn where
  id : Int
  many : Int
  sl : List GSlot
  te : Int
  bn : Int
  bb : Int
  ie : Int
  ik : Int
  ia : Int
  ib : Int
  hn : Int
  hb : Int
  ps : List Int
  as : List Int
  dc : Bool
namespace GMn
def tr (m : GMn) : List AV := [.int .i64 m.te, .int .i64 m.bn, .int .i64 m.bb, .int .i64 m.ie, .int .i64 m.ik, .int .i64 m.ia, .int .i64 m.ib, .int .i64 m.hn, .int .i64 m.hb, .rd true (rws encI m.ps), .rd true (rws encI m.as), .bool m.dc]
def enc (m : GMn) : List AV := [.int .i64 m.id, .int .i64 m.many, .rd true (rws GSlot.enc m.sl), .int .i64 m.te, .int .i64 m.bn, .int .i64 m.bb, .int .i64 m.ie, .int .i64 m.ik, .int .i64 m.ia, .int .i64 m.ib, .int .i64 m.hn, .int .i64 m.hb, .rd true (rws encI m.ps), .rd true (rws encI m.as), .bool m.dc]
def z0 (m : GMn) : Bool := m.te == 0 && (bl0 m.bn m.bb && (in0 m.ie m.ik m.ia m.ib && (bl0 m.hn m.hb && (decide (m.ps.length = 0) && (decide (m.as.length = 0) && !m.dc)))))
end GMn
theorem idsOk (k : Nat) (m : GMn) (l : List Int) (hn : l.length ≤ 1000000000) (hm : 1 ≤ m.many ∧ m.many ≤ 5) : call code (k + 6) 100 [.agg m.enc, .rd true (rws encI l)] [] = some ⟨.bool (idsB l (m.many - 1)), [], []⟩ := by
  refine call_run rfl fn100 rfl ?_
  have h1 := fun k => increasing k l hn
  have h2 := fun k => allBetween k l 0 (m.many - 1) hn
  rw [btB_eq] at h2
  have e1 : IntKind.wrap .i64 (m.many - 1) = m.many - 1 := wrap64 ⟨by omega, by omega⟩
  unfold idsB
  cases c : upB l
  · rw [c] at h1; simp [F100, GMn.enc, rcall107, h1]
  · rw [c] at h1; simp [F100, GMn.enc, rcall107, h1, e1, rcall108, h2]
theorem majority (k : Nat) (m : GMn) (l : List Int) (hn : l.length ≤ 1000000000) : call code (k + 1) 32 [.agg m.enc, .rd true (rws encI l)] [] = some ⟨.bool (mjB l m.many), [], []⟩ := by
  refine call_run rfl fn32 rfl ?_
  have e1 : IntKind.wrap .i64 (2 * (l.length : Int)) = 2 * (l.length : Int) := wrap64 ⟨by omega, by omega⟩
  simp [F32, GMn.enc, e1, mjB]
set_option maxHeartbeats 4000000 in
theorem isZero (k : Nat) (m : GMn) : call code (k + 1) 99 [.agg m.tr] [] = some ⟨.bool m.z0, [], []⟩ := by
  refine call_run rfl fn99 rfl ?_
  obtain ⟨id, many, sl, te, bn, bb, ie, ik, ia, ib, hn, hb, ps, as, dc⟩ := m
  unfold GMn.z0 bl0 in0
  simp only
  cases c0 : (te == 0)
  · simp [F99, GMn.tr, c0]
  cases c1 : (bn == 0)
  · simp [F99, GMn.tr, c0, c1]
  cases c2 : (bb == 0)
  · simp [F99, GMn.tr, c0, c1, c2]
  cases c3 : (ie == 0)
  · simp [F99, GMn.tr, c0, c1, c2, c3]
  cases c4 : (ik == 0)
  · simp [F99, GMn.tr, c0, c1, c2, c3, c4]
  cases c5 : (ia == 0)
  · simp [F99, GMn.tr, c0, c1, c2, c3, c4, c5]
  cases c6 : (ib == 0)
  · simp [F99, GMn.tr, c0, c1, c2, c3, c4, c5, c6]
  cases c7 : (hn == 0)
  · simp [F99, GMn.tr, c0, c1, c2, c3, c4, c5, c6, c7]
  cases c8 : (hb == 0)
  · simp [F99, GMn.tr, c0, c1, c2, c3, c4, c5, c6, c7, c8]
  have p1 : ((ps.length : Int) == 0) = decide (ps.length = 0) := by rw [Bool.eq_iff_iff]; simp
  have p2 : ((as.length : Int) == 0) = decide (as.length = 0) := by rw [Bool.eq_iff_iff]; simp
  cases c9 : decide (ps.length = 0)
  · rw [c9] at p1
    simp [F99, GMn.tr, c0, c1, c2, c3, c4, c5, c6, c7, c8, p1]
  cases c10 : decide (as.length = 0)
  · rw [c9] at p1
    rw [c10] at p2
    simp [F99, GMn.tr, c0, c1, c2, c3, c4, c5, c6, c7, c8, p1, p2]
  · rw [c9] at p1
    rw [c10] at p2
    simp [F99, GMn.tr, c0, c1, c2, c3, c4, c5, c6, c7, c8, p1, p2]
end Go.Ae.E1
namespace Go.Ae.E1
set_option linter.unusedSimpArgs false
set_option linter.unusedVariables false
set_option maxRecDepth 10000
def GMn.t2 (m : GMn) : Bool := epB m.te && (blB m.bn m.bb && (!bl0 m.bn m.bb && ((m.bb == m.id) && ((incB m.ie m.ik m.ia m.ib && m.ie == m.te) && (blB m.hn m.hb && (leB m.hn m.hb m.bn m.bb && (idsB m.ps (m.many - 1) && (idsB m.as (m.many - 1) && ((decide (m.as.length = 0) || mjB m.ps m.many) && (m.dc == mjB m.as m.many))))))))))
def GMn.ty (m : GMn) : Bool := m.z0 || m.t2
set_option maxHeartbeats 16000000 in
theorem tryOk (k : Nat) (m : GMn) (hm : 1 ≤ m.many ∧ m.many ≤ 5) (hp : m.ps.length ≤ 1000000000) (ha : m.as.length ≤ 1000000000) : call code (k + 7) 67 [.agg m.enc] [] = some ⟨.bool m.ty, [], []⟩ := by
  refine call_run rfl fn67 rfl ?_
  have hz := fun k => isZero k m
  have h1 := fun k => isDecidable k m.te
  have h2 := fun k => ballotOk k m.bn m.bb
  have h5 := fun k => incFor k m.ie m.ik m.ia m.ib m.te
  have h6 := fun k => ballotOk k m.hn m.hb
  have h7 := fun k => lessBallot k m.hn m.hb m.bn m.bb
  have h8 := fun k => idsOk k m m.ps hp hm
  have h9 := fun k => idsOk k m m.as ha hm
  have h10 := fun k => majority k m m.ps hp
  have h11 := fun k => majority k m m.as ha
  have p2 : ((m.as.length : Int) == 0) = decide (m.as.length = 0) := by rw [Bool.eq_iff_iff]; simp
  have b1 : bl0 m.bn m.bb = (m.bn == 0 && m.bb == 0) := rfl
  unfold GMn.ty GMn.t2
  simp only [GMn.enc] at h8 h9 h10 h11
  simp only [GMn.tr] at hz
  generalize GMn.z0 m = z at *
  obtain ⟨id, many, sl, te, bn, bb, ie, ik, ia, ib, hn, hb, ps, as, dc⟩ := m
  simp only [GMn.enc] at *
  generalize hv1 : epB te = v1 at *
  generalize hv2 : blB bn bb = v2 at *
  generalize hv3 : bl0 bn bb = v3 at *
  generalize hv6 : blB hn hb = v6 at *
  generalize hv7 : leB hn hb bn bb = v7 at *
  generalize hv8 : idsB ps (many - 1) = v8 at *
  generalize hv9 : idsB as (many - 1) = v9 at *
  generalize hv10 : mjB ps many = v10 at *
  generalize hv11 : mjB as many = v11 at *
  generalize hv5 : (incB ie ik ia ib && ie == te) = v5 at *
  generalize hv12 : decide (as.length = 0) = v12 at *
  clear hv1 hv2 hv3 hv6 hv7 hv8 hv9 hv10 hv11 hv5 hv12 hm hp ha
  cases z
  rotate_left
  · simp [F67, rcall99, hz, rcall80, h1, rcall81, h2, rcall83, h5, h6, rcall42, h7, rcall100, h8, h9, p2, rcall32, h10, h11]
  simp [F67, rcall99, hz, rcall80, h1, rcall81, h2, rcall83, h5, h6, rcall42, h7, rcall100, h8, h9, p2, rcall32, h10, h11]
  cases v1
  · simp [rcall99, hz, rcall80, h1, rcall81, h2, rcall83, h5, h6, rcall42, h7, rcall100, h8, h9, p2, rcall32, h10, h11]
  simp [rcall99, hz, rcall80, h1, rcall81, h2, rcall83, h5, h6, rcall42, h7, rcall100, h8, h9, p2, rcall32, h10, h11]
  cases v2
  · simp [rcall99, hz, rcall80, h1, rcall81, h2, rcall83, h5, h6, rcall42, h7, rcall100, h8, h9, p2, rcall32, h10, h11]
  simp [rcall99, hz, rcall80, h1, rcall81, h2, rcall83, h5, h6, rcall42, h7, rcall100, h8, h9, p2, rcall32, h10, h11]
  cases d1 : (bn == 0)
  · have b2 : v3 = false := by rw [b1, d1]; rfl
    subst b2
    simp [d1, rcall99, hz, rcall80, h1, rcall81, h2, rcall83, h5, h6, rcall42, h7, rcall100, h8, h9, p2, rcall32, h10, h11]
    cases c4 : (bb == id)
    · simp [c4, d1, rcall99, hz, rcall80, h1, rcall81, h2, rcall83, h5, h6, rcall42, h7, rcall100, h8, h9, p2, rcall32, h10, h11]
    simp [c4, d1, rcall99, hz, rcall80, h1, rcall81, h2, rcall83, h5, h6, rcall42, h7, rcall100, h8, h9, p2, rcall32, h10, h11]
    cases v5
    · simp [c4, d1, rcall99, hz, rcall80, h1, rcall81, h2, rcall83, h5, h6, rcall42, h7, rcall100, h8, h9, p2, rcall32, h10, h11]
    simp [c4, d1, rcall99, hz, rcall80, h1, rcall81, h2, rcall83, h5, h6, rcall42, h7, rcall100, h8, h9, p2, rcall32, h10, h11]
    cases v6
    · simp [c4, d1, rcall99, hz, rcall80, h1, rcall81, h2, rcall83, h5, h6, rcall42, h7, rcall100, h8, h9, p2, rcall32, h10, h11]
    simp [c4, d1, rcall99, hz, rcall80, h1, rcall81, h2, rcall83, h5, h6, rcall42, h7, rcall100, h8, h9, p2, rcall32, h10, h11]
    cases v7
    · simp [c4, d1, rcall99, hz, rcall80, h1, rcall81, h2, rcall83, h5, h6, rcall42, h7, rcall100, h8, h9, p2, rcall32, h10, h11]
    simp [c4, d1, rcall99, hz, rcall80, h1, rcall81, h2, rcall83, h5, h6, rcall42, h7, rcall100, h8, h9, p2, rcall32, h10, h11]
    cases v8
    · simp [c4, d1, rcall99, hz, rcall80, h1, rcall81, h2, rcall83, h5, h6, rcall42, h7, rcall100, h8, h9, p2, rcall32, h10, h11]
    simp [c4, d1, rcall99, hz, rcall80, h1, rcall81, h2, rcall83, h5, h6, rcall42, h7, rcall100, h8, h9, p2, rcall32, h10, h11]
    cases v9
    · simp [c4, d1, rcall99, hz, rcall80, h1, rcall81, h2, rcall83, h5, h6, rcall42, h7, rcall100, h8, h9, p2, rcall32, h10, h11]
    simp [c4, d1, rcall99, hz, rcall80, h1, rcall81, h2, rcall83, h5, h6, rcall42, h7, rcall100, h8, h9, p2, rcall32, h10, h11]
    cases v12
    · simp [c4, d1, rcall99, hz, rcall80, h1, rcall81, h2, rcall83, h5, h6, rcall42, h7, rcall100, h8, h9, p2, rcall32, h10, h11]
      cases v10
      · simp [c4, d1, rcall99, hz, rcall80, h1, rcall81, h2, rcall83, h5, h6, rcall42, h7, rcall100, h8, h9, p2, rcall32, h10, h11]
      · cases dc <;> cases v11 <;> simp [c4, d1, rcall99, hz, rcall80, h1, rcall81, h2, rcall83, h5, h6, rcall42, h7, rcall100, h8, h9, p2, rcall32, h10, h11]
    · cases dc <;> cases v11 <;> simp [c4, d1, rcall99, hz, rcall80, h1, rcall81, h2, rcall83, h5, h6, rcall42, h7, rcall100, h8, h9, p2, rcall32, h10, h11]
  · cases d2 : (bb == 0)
    · have b2 : v3 = false := by rw [b1, d1, d2]; rfl
      subst b2
      simp [d1, d2, rcall99, hz, rcall80, h1, rcall81, h2, rcall83, h5, h6, rcall42, h7, rcall100, h8, h9, p2, rcall32, h10, h11]
      cases c4 : (bb == id)
      · simp [c4, d1, d2, rcall99, hz, rcall80, h1, rcall81, h2, rcall83, h5, h6, rcall42, h7, rcall100, h8, h9, p2, rcall32, h10, h11]
      simp [c4, d1, d2, rcall99, hz, rcall80, h1, rcall81, h2, rcall83, h5, h6, rcall42, h7, rcall100, h8, h9, p2, rcall32, h10, h11]
      cases v5
      · simp [c4, d1, d2, rcall99, hz, rcall80, h1, rcall81, h2, rcall83, h5, h6, rcall42, h7, rcall100, h8, h9, p2, rcall32, h10, h11]
      simp [c4, d1, d2, rcall99, hz, rcall80, h1, rcall81, h2, rcall83, h5, h6, rcall42, h7, rcall100, h8, h9, p2, rcall32, h10, h11]
      cases v6
      · simp [c4, d1, d2, rcall99, hz, rcall80, h1, rcall81, h2, rcall83, h5, h6, rcall42, h7, rcall100, h8, h9, p2, rcall32, h10, h11]
      simp [c4, d1, d2, rcall99, hz, rcall80, h1, rcall81, h2, rcall83, h5, h6, rcall42, h7, rcall100, h8, h9, p2, rcall32, h10, h11]
      cases v7
      · simp [c4, d1, d2, rcall99, hz, rcall80, h1, rcall81, h2, rcall83, h5, h6, rcall42, h7, rcall100, h8, h9, p2, rcall32, h10, h11]
      simp [c4, d1, d2, rcall99, hz, rcall80, h1, rcall81, h2, rcall83, h5, h6, rcall42, h7, rcall100, h8, h9, p2, rcall32, h10, h11]
      cases v8
      · simp [c4, d1, d2, rcall99, hz, rcall80, h1, rcall81, h2, rcall83, h5, h6, rcall42, h7, rcall100, h8, h9, p2, rcall32, h10, h11]
      simp [c4, d1, d2, rcall99, hz, rcall80, h1, rcall81, h2, rcall83, h5, h6, rcall42, h7, rcall100, h8, h9, p2, rcall32, h10, h11]
      cases v9
      · simp [c4, d1, d2, rcall99, hz, rcall80, h1, rcall81, h2, rcall83, h5, h6, rcall42, h7, rcall100, h8, h9, p2, rcall32, h10, h11]
      simp [c4, d1, d2, rcall99, hz, rcall80, h1, rcall81, h2, rcall83, h5, h6, rcall42, h7, rcall100, h8, h9, p2, rcall32, h10, h11]
      cases v12
      · simp [c4, d1, d2, rcall99, hz, rcall80, h1, rcall81, h2, rcall83, h5, h6, rcall42, h7, rcall100, h8, h9, p2, rcall32, h10, h11]
        cases v10
        · simp [c4, d1, d2, rcall99, hz, rcall80, h1, rcall81, h2, rcall83, h5, h6, rcall42, h7, rcall100, h8, h9, p2, rcall32, h10, h11]
        · cases dc <;> cases v11 <;> simp [c4, d1, d2, rcall99, hz, rcall80, h1, rcall81, h2, rcall83, h5, h6, rcall42, h7, rcall100, h8, h9, p2, rcall32, h10, h11]
      · cases dc <;> cases v11 <;> simp [c4, d1, d2, rcall99, hz, rcall80, h1, rcall81, h2, rcall83, h5, h6, rcall42, h7, rcall100, h8, h9, p2, rcall32, h10, h11]
    · have b2 : v3 = true := by rw [b1, d1, d2]; rfl
      subst b2
      simp [d1, d2, rcall99, hz, rcall80, h1, rcall81, h2, rcall83, h5, h6, rcall42, h7, rcall100, h8, h9, p2, rcall32, h10, h11]
end Go.Ae.E1
namespace Go.Ae.E1
set_option linter.unusedSimpArgs false
set_option linter.unusedVariables false
set_option maxRecDepth 10000
set_option maxHeartbeats 16000000 in
theorem l21Try (k : Nat) (m : GMn) (hm : 1 ≤ m.many ∧ m.many ≤ 5) (hp : m.ps.length ≤ 1000000000) (ha : m.as.length ≤ 1000000000) : call code (k + 5) 39 [.agg m.enc] [] = some ⟨.bool m.ty, [], []⟩ := by
  refine call_run rfl fn39 rfl ?_
  have h1 := fun k => l21Epoch k m.te
  have h2 := fun k => l21Full k m.bn m.bb
  have h5 := fun k => sIncOk k m.ie m.ik m.ia m.ib
  have h6 := fun k => l21Ballot k m.hn m.hb
  have h7 := fun k => l21Less k m.hn m.hb m.bn m.bb
  have h8 := fun k => l00Rises k m.ps (m.many - 1) hp
  have h9 := fun k => l00Rises k m.as (m.many - 1) ha
  have h10 := fun k => l21Most k m.ps m.many hp
  have h11 := fun k => l21Most k m.as m.many ha
  have e1 : IntKind.wrap .i64 (m.many - 1) = m.many - 1 := wrap64 ⟨by omega, by omega⟩
  have p1 : ((m.ps.length : Int) == 0) = decide (m.ps.length = 0) := by rw [Bool.eq_iff_iff]; simp
  have p2 : ((m.as.length : Int) == 0) = decide (m.as.length = 0) := by rw [Bool.eq_iff_iff]; simp
  have p3 : decide ((0 : Int) < (m.as.length : Int)) = !decide (m.as.length = 0) := by generalize m.as.length = n; cases n <;> simp <;> omega
  have p4 : decide (0 < m.as.length) = !decide (m.as.length = 0) := by generalize m.as.length = n; cases n <;> simp
  unfold GMn.ty GMn.t2
  obtain ⟨id, many, sl, te, bn, bb, ie, ik, ia, ib, hn, hb, ps, as, dc⟩ := m
  simp only [GMn.enc] at *
  cases c0 : (te == 0)
  rotate_left
  · have ht : te = 0 := by simpa using c0
    subst ht
    have hep : epB 0 = false := rfl
    simp only [GMn.z0, bl0, in0, hep]
    clear h1 h2 h5 h6 h7 h8 h9 h10 h11 hm hp ha e1 p3 p4 hep
    generalize decide (ps.length = 0) = v13 at *
    generalize decide (as.length = 0) = v12 at *
    simp [F39]
    cases d1 : (bn == 0)
    · simp [d1]
    cases d2 : (bb == 0)
    · simp [d1, d2]
    cases d3 : (ie == 0)
    · simp [d1, d2, d3]
    cases d4 : (ik == 0)
    · simp [d1, d2, d3, d4]
    cases d5 : (ia == 0)
    · simp [d1, d2, d3, d4, d5]
    cases d6 : (ib == 0)
    · simp [d1, d2, d3, d4, d5, d6]
    cases d7 : (hn == 0)
    · simp [d1, d2, d3, d4, d5, d6, d7]
    cases d8 : (hb == 0)
    · simp [d1, d2, d3, d4, d5, d6, d7, d8]
    simp [d1, d2, d3, d4, d5, d6, d7, d8, p1]
    cases v13
    · simp [p1, p2]
    simp [p1, p2]
    cases v12 <;> cases dc <;> simp [p1, p2]
  have hz : GMn.z0 ⟨id, many, sl, te, bn, bb, ie, ik, ia, ib, hn, hb, ps, as, dc⟩ = false := by unfold GMn.z0; rw [c0]; rfl
  rw [hz]
  have c5 : (ie == te) = (ie == te) := rfl
  generalize hv1 : epB te = v1 at *
  generalize hv2 : blB bn bb = v2 at *
  generalize hv3 : bl0 bn bb = v3 at *
  generalize hv6 : blB hn hb = v6 at *
  generalize hv7 : leB hn hb bn bb = v7 at *
  generalize hv8 : idsB ps (many - 1) = v8 at *
  generalize hv9 : idsB as (many - 1) = v9 at *
  generalize hv10 : mjB ps many = v10 at *
  generalize hv11 : mjB as many = v11 at *
  generalize hv5 : incB ie ik ia ib = v5 at *
  generalize hv12 : decide (as.length = 0) = v12 at *
  clear hv1 hv2 hv3 hv6 hv7 hv8 hv9 hv10 hv11 hv5 hv12 hm hp ha hz p1 c5
  simp [F39, c0, rcall35, h1, rcall69, h2, rcall62, h5, rcall36, h6, rcall37, h7, rcall70, h8, h9, e1, p2, p3, p4, rcall71, h10, h11]
  cases v1
  · simp [c0, rcall35, h1, rcall69, h2, rcall62, h5, rcall36, h6, rcall37, h7, rcall70, h8, h9, e1, p2, p3, p4, rcall71, h10, h11]
  simp [c0, rcall35, h1, rcall69, h2, rcall62, h5, rcall36, h6, rcall37, h7, rcall70, h8, h9, e1, p2, p3, p4, rcall71, h10, h11]
  cases v2
  · simp [c0, rcall35, h1, rcall69, h2, rcall62, h5, rcall36, h6, rcall37, h7, rcall70, h8, h9, e1, p2, p3, p4, rcall71, h10, h11]
  simp [c0, rcall35, h1, rcall69, h2, rcall62, h5, rcall36, h6, rcall37, h7, rcall70, h8, h9, e1, p2, p3, p4, rcall71, h10, h11]
  cases v3
  rotate_left
  · simp [c0, rcall35, h1, rcall69, h2, rcall62, h5, rcall36, h6, rcall37, h7, rcall70, h8, h9, e1, p2, p3, p4, rcall71, h10, h11]
  simp [c0, rcall35, h1, rcall69, h2, rcall62, h5, rcall36, h6, rcall37, h7, rcall70, h8, h9, e1, p2, p3, p4, rcall71, h10, h11]
  cases c4 : (bb == id)
  · have c4n : (bb != id) = true := by simp only [bne, c4]; rfl
    simp [c4, c4n, c0, rcall35, h1, rcall69, h2, rcall62, h5, rcall36, h6, rcall37, h7, rcall70, h8, h9, e1, p2, p3, p4, rcall71, h10, h11]
  have c4n : (bb != id) = false := by simp only [bne, c4]; rfl
  simp [c4, c4n, c0, rcall35, h1, rcall69, h2, rcall62, h5, rcall36, h6, rcall37, h7, rcall70, h8, h9, e1, p2, p3, p4, rcall71, h10, h11]
  cases v5
  · simp [c4, c4n, c0, rcall35, h1, rcall69, h2, rcall62, h5, rcall36, h6, rcall37, h7, rcall70, h8, h9, e1, p2, p3, p4, rcall71, h10, h11]
  simp [c4, c4n, c0, rcall35, h1, rcall69, h2, rcall62, h5, rcall36, h6, rcall37, h7, rcall70, h8, h9, e1, p2, p3, p4, rcall71, h10, h11]
  cases c6 : (ie == te)
  · have c6n : (ie != te) = true := by simp only [bne, c6]; rfl
    simp [c6, c6n, c4, c4n, c0, rcall35, h1, rcall69, h2, rcall62, h5, rcall36, h6, rcall37, h7, rcall70, h8, h9, e1, p2, p3, p4, rcall71, h10, h11]
  have c6n : (ie != te) = false := by simp only [bne, c6]; rfl
  simp [c6, c6n, c4, c4n, c0, rcall35, h1, rcall69, h2, rcall62, h5, rcall36, h6, rcall37, h7, rcall70, h8, h9, e1, p2, p3, p4, rcall71, h10, h11]
  cases v6
  · simp [c6, c6n, c4, c4n, c0, rcall35, h1, rcall69, h2, rcall62, h5, rcall36, h6, rcall37, h7, rcall70, h8, h9, e1, p2, p3, p4, rcall71, h10, h11]
  simp [c6, c6n, c4, c4n, c0, rcall35, h1, rcall69, h2, rcall62, h5, rcall36, h6, rcall37, h7, rcall70, h8, h9, e1, p2, p3, p4, rcall71, h10, h11]
  cases v7
  · simp [c6, c6n, c4, c4n, c0, rcall35, h1, rcall69, h2, rcall62, h5, rcall36, h6, rcall37, h7, rcall70, h8, h9, e1, p2, p3, p4, rcall71, h10, h11]
  simp [c6, c6n, c4, c4n, c0, rcall35, h1, rcall69, h2, rcall62, h5, rcall36, h6, rcall37, h7, rcall70, h8, h9, e1, p2, p3, p4, rcall71, h10, h11]
  cases v8
  · simp [c6, c6n, c4, c4n, c0, rcall35, h1, rcall69, h2, rcall62, h5, rcall36, h6, rcall37, h7, rcall70, h8, h9, e1, p2, p3, p4, rcall71, h10, h11]
  simp [c6, c6n, c4, c4n, c0, rcall35, h1, rcall69, h2, rcall62, h5, rcall36, h6, rcall37, h7, rcall70, h8, h9, e1, p2, p3, p4, rcall71, h10, h11]
  cases v9
  · simp [c6, c6n, c4, c4n, c0, rcall35, h1, rcall69, h2, rcall62, h5, rcall36, h6, rcall37, h7, rcall70, h8, h9, e1, p2, p3, p4, rcall71, h10, h11]
  simp [c6, c6n, c4, c4n, c0, rcall35, h1, rcall69, h2, rcall62, h5, rcall36, h6, rcall37, h7, rcall70, h8, h9, e1, p2, p3, p4, rcall71, h10, h11]
  cases v10
  · simp [c6, c6n, c4, c4n, c0, rcall35, h1, rcall69, h2, rcall62, h5, rcall36, h6, rcall37, h7, rcall70, h8, h9, e1, p2, p3, p4, rcall71, h10, h11]
    cases v12
    · simp [c6, c6n, c4, c4n, c0, rcall35, h1, rcall69, h2, rcall62, h5, rcall36, h6, rcall37, h7, rcall70, h8, h9, e1, p2, p3, p4, rcall71, h10, h11]
    · cases dc <;> cases v11 <;> simp [c6, c6n, c4, c4n, c0, rcall35, h1, rcall69, h2, rcall62, h5, rcall36, h6, rcall37, h7, rcall70, h8, h9, e1, p2, p3, p4, rcall71, h10, h11]
  · cases v12 <;> cases dc <;> cases v11 <;> simp [c6, c6n, c4, c4n, c0, rcall35, h1, rcall69, h2, rcall62, h5, rcall36, h6, rcall37, h7, rcall70, h8, h9, e1, p2, p3, p4, rcall71, h10, h11]
end Go.Ae.E1
