/- A state's check, whole. -/
import Derived.Test.YtiabjkihebhfkaaGreatHCP
namespace Go.Ae.GA.B
set_option linter.unusedSimpArgs false
set_option linter.unusedVariables false
set_option maxRecDepth 100000 in
set_option maxHeartbeats 64000000 in
theorem stateOk (k : Nat) (p0 p1 se st te ts : Int) (hs : List GHead) (ls : List GLast) (es : List GEntry) (fe fs : Int) (cs : List GChunk) (b1 : hs.length ≤ 1048576) (b2 : ls.length ≤ 1048576) (b3 : es.length ≤ 1048576) (b4 : cs.length ≤ 1048576) (z1 : ∀ c ∈ hs, c.Name.size ≤ 1048576) (z2 : ∀ c ∈ es, c.Name.size ≤ 1048576) (z3 : ∀ c ∈ cs, c.Name.size ≤ 1048576) : call code (k + 7) 66 [psV p0 p1 se st te ts hs ls es fe fs cs] [] = some ⟨.bool (stateB p0 p1 se st te ts hs ls es fe fs cs), [], []⟩ := by
  refine call_run rfl fn66 rfl ?_
  unfold stateB
  have h8 := fun k => lastVer k p0 p1 se st te ts hs ls es fe fs cs b3
  have h9 := fun k => verLess k (lsE te (·.Ver_Epoch) es) (lsE ts (·.Ver_Seq) es) fe fs
  have h10 := fun k => chunksOk k p0 p1 se st te ts hs ls es fe fs cs (by omega) z3
  unfold psV at *
  have h1 := fun k => pgOk k p0 p1
  have h2 := fun k => between k se 0 60
  have h3 := fun k => between k st 0 se
  have h4 := fun k => verOk k te ts
  have h5 := fun k => baseOk k p0 p1 se st te ts hs ls es fe fs cs (by omega) (by omega) z1
  have h6 := fun k => logOkN k p0 p1 se st te ts hs ls es fe fs cs b1 b3 z1 z2
  have h7 := fun k => verOk k fe fs
  cases c0 : pgB p0 p1
  · rw [c0] at h1
    simp [F66, rcall141, rcall142, rcall143, rcall144, rcall145, rcall110, rcall38, rcall146, h1]
  rw [c0] at h1
  cases c1 : inB se 0 60
  · rw [c1] at h2
    simp [F66, rcall141, rcall142, rcall143, rcall144, rcall145, rcall110, rcall38, rcall146, h1, h2]
  rw [c1] at h2
  cases c2 : inB st 0 se
  · rw [c2] at h3
    simp [F66, rcall141, rcall142, rcall143, rcall144, rcall145, rcall110, rcall38, rcall146, h1, h2, h3]
  rw [c2] at h3
  cases c3 : verB te ts
  · rw [c3] at h4
    simp [F66, rcall141, rcall142, rcall143, rcall144, rcall145, rcall110, rcall38, rcall146, h1, h2, h3, h4]
  rw [c3] at h4
  cases c4 : baseB te ts hs ls
  · rw [c4] at h5
    simp [F66, rcall141, rcall142, rcall143, rcall144, rcall145, rcall110, rcall38, rcall146, h1, h2, h3, h4, h5]
  rw [c4] at h5
  have hsr : Srt hs := srt_of (by unfold baseB at c4; simp only [Bool.and_eq_true] at c4; exact c4.1)
  have hlq := logB_eq hsr te ts es
  rw [hlq] at h6
  cases c5 : lgB te ts hs es
  · rw [c5] at h6
    simp [F66, rcall141, rcall142, rcall143, rcall144, rcall145, rcall110, rcall38, rcall146, h1, h2, h3, h4, h5, h6]
  rw [c5] at h6
  cases c6 : verB fe fs
  · rw [c6] at h7
    simp [F66, rcall141, rcall142, rcall143, rcall144, rcall145, rcall110, rcall38, rcall146, h1, h2, h3, h4, h5, h6, h7]
  rw [c6] at h7
  cases c7 : lessB (lsE te (·.Ver_Epoch) es) (lsE ts (·.Ver_Seq) es) fe fs
  rotate_left
  · rw [c7] at h9
    simp [F66, rcall141, rcall142, rcall143, rcall144, rcall145, rcall110, rcall38, rcall146, h1, h2, h3, h4, h5, h6, h7, h8, h9]
  rw [c7] at h9
  cases c8 : chksB cs <;> rw [c8] at h10 <;> simp [F66, rcall141, rcall142, rcall143, rcall144, rcall145, rcall110, rcall38, rcall146, h1, h2, h3, h4, h5, h6, h7, h8, h9, h10]
theorem stateB_S (p0 p1 se st te ts : Int) (hs : List GHead) (ls : List GLast) (es : List GEntry) (fe fs : Int) (cs : List GChunk) : stateB p0 p1 se st te ts hs ls es fe fs cs = (pgB p0 p1 && (inB se 0 60 && (inB st 0 se && (verB te ts && (verB fe fs && ((headsA te ts hs && decide ((hs.length : Int) ≤ 16)) && ((lastsA te ts ls && decide ((ls.length : Int) ≤ 6)) && (lgB te ts hs es && (!lessB (lsE te (·.Ver_Epoch) es) (lsE ts (·.Ver_Seq) es) fe fs && chksB cs))))))))) := by
  unfold stateB baseB
  ac_rfl
set_option maxRecDepth 100000 in
set_option maxHeartbeats 64000000 in
theorem stateOkS (k : Nat) (p0 p1 se st te ts : Int) (hs : List GHead) (ls : List GLast) (es : List GEntry) (fe fs : Int) (cs : List GChunk) (b1 : hs.length ≤ 1048576) (b2 : ls.length ≤ 1048576) (b3 : es.length ≤ 1048576) (b4 : cs.length ≤ 1048576) (z1 : ∀ c ∈ hs, c.Name.size ≤ 1048576) (z2 : ∀ c ∈ es, c.Name.size ≤ 1048576) (z3 : ∀ c ∈ cs, c.Name.size ≤ 1048576) : call code (k + 7) 29 [psV p0 p1 se st te ts hs ls es fe fs cs] [] = some ⟨.bool (stateB p0 p1 se st te ts hs ls es fe fs cs), [], []⟩ := by
  refine call_run rfl fn29 rfl ?_
  rw [stateB_S]
  have h9 := fun k => l17LastOf k p0 p1 se st te ts hs ls es fe fs cs b3
  have h10 := fun k => verLessS k (lsE te (·.Ver_Epoch) es) (lsE ts (·.Ver_Seq) es) fe fs
  have h11 := fun k => l17Chunks k cs (by omega) z3
  unfold psV at *
  have h1 := fun k => l17Pg k p0 p1
  have h2 := fun k => l00In k se 0 60
  have h3 := fun k => l00In k st 0 se
  have h4 := fun k => l17Ver k te ts
  have h5 := fun k => l17Ver k fe fs
  have h6 := fun k => l17Heads k te ts hs (by omega) z1
  have h7 := fun k => l17Lasts k te ts ls (by omega)
  have h8 := fun k => l17Log k p0 p1 se st te ts hs ls es fe fs cs b1 (by omega) z2
  cases c0 : pgB p0 p1
  · rw [c0] at h1
    simp [F29, rcall96, rcall97, rcall98, rcall99, rcall100, rcall101, rcall102, rcall83, rcall103, h1]
  rw [c0] at h1
  cases c1 : inB se 0 60
  · rw [c1] at h2
    simp [F29, rcall96, rcall97, rcall98, rcall99, rcall100, rcall101, rcall102, rcall83, rcall103, h1, h2]
  rw [c1] at h2
  cases c2 : inB st 0 se
  · rw [c2] at h3
    simp [F29, rcall96, rcall97, rcall98, rcall99, rcall100, rcall101, rcall102, rcall83, rcall103, h1, h2, h3]
  rw [c2] at h3
  cases c3 : verB te ts
  · rw [c3] at h4
    simp [F29, rcall96, rcall97, rcall98, rcall99, rcall100, rcall101, rcall102, rcall83, rcall103, h1, h2, h3, h4]
  rw [c3] at h4
  cases c4 : verB fe fs
  · rw [c4] at h5
    simp [F29, rcall96, rcall97, rcall98, rcall99, rcall100, rcall101, rcall102, rcall83, rcall103, h1, h2, h3, h4, h5]
  rw [c4] at h5
  cases c5 : (headsA te ts hs && decide ((hs.length : Int) ≤ 16))
  · rw [c5] at h6
    simp [F29, rcall96, rcall97, rcall98, rcall99, rcall100, rcall101, rcall102, rcall83, rcall103, h1, h2, h3, h4, h5, h6]
  rw [c5] at h6
  cases c6 : (lastsA te ts ls && decide ((ls.length : Int) ≤ 6))
  · rw [c6] at h7
    simp [F29, rcall96, rcall97, rcall98, rcall99, rcall100, rcall101, rcall102, rcall83, rcall103, h1, h2, h3, h4, h5, h6, h7]
  rw [c6] at h7
  cases c7 : lgB te ts hs es
  · rw [c7] at h8
    simp [F29, rcall96, rcall97, rcall98, rcall99, rcall100, rcall101, rcall102, rcall83, rcall103, h1, h2, h3, h4, h5, h6, h7, h8]
  rw [c7] at h8
  cases c8 : lessB (lsE te (·.Ver_Epoch) es) (lsE ts (·.Ver_Seq) es) fe fs
  rotate_left
  · rw [c8] at h10
    simp [F29, rcall96, rcall97, rcall98, rcall99, rcall100, rcall101, rcall102, rcall83, rcall103, h1, h2, h3, h4, h5, h6, h7, h8, h9, h10]
  rw [c8] at h10
  cases c9 : chksB cs <;> rw [c9] at h11 <;> simp [F29, rcall96, rcall97, rcall98, rcall99, rcall100, rcall101, rcall102, rcall83, rcall103, h1, h2, h3, h4, h5, h6, h7, h8, h9, h10, h11]
end Go.Ae.GA.B
