/- How many of the log are not beyond a version. -/
import Derived.Test.YtiabjkihebhfkaaGreatGBM4
import Derived.Test.YtiabjkihebhfkaaGreatAeL6
import Derived.Test.YtiabjkihebhfkaaGreatAeL5
namespace Go.Ae.GA.B
set_option linter.unusedSimpArgs false
set_option linter.unusedVariables false
def isV (a b : Int) (e : GEntry) : Bool := e.Ver_Epoch == a && e.Ver_Seq == b
def upC (te ts : Int) (es : List GEntry) (a b : Int) : Int := if a == te && b == ts then 0 else if idxP (isV a b) es < 0 then -1 else idxP (isV a b) es + 1
end Go.Ae.GA.B
namespace Go.Ae.GA.B
set_option linter.unusedSimpArgs false
set_option linter.unusedVariables false
set_option maxRecDepth 100000 in
set_option maxHeartbeats 64000000 in
theorem stateOk (k : Nat) (p0 p1 se st te ts : Int) (hs : List GHead) (ls : List GLast) (es : List GEntry) (fe fs : Int) (cs : List GChunk) (b1 : hs.length ≤ 1048576) (b2 : ls.length ≤ 1048576) (b3 : es.length ≤ 1048576) (b4 : cs.length ≤ 1048576) (z1 : ∀ c ∈ hs, c.Name.size ≤ 1048576) (z2 : ∀ c ∈ es, c.Name.size ≤ 1048576) (z3 : ∀ c ∈ cs, c.Name.size ≤ 1048576) : call code (k + 7) 66 [psV p0 p1 se st te ts hs ls es fe fs cs] [] = some ⟨.bool (stateB p0 p1 se st te ts hs ls es fe fs cs), [], []⟩ := by
  refine call_run rfl fn66 rfl ?_
  unfold stateB
  have h8 := fun k => lastVer k p0 p1 se st te ts hs ls es fe fs cs b3
  have h9 := fun k => verLess k (lsE te (·.Ver_Epoch) es) (lsE ts (·.Ver_Seq) es) fe fs
  have h10 := fun k => chunksOk k p0 p1 se st te ts hs ls es fe fs cs (by omega) z3
  unfold psV at *
  have h1 := fun k => pgOk k p0 p1
  have h2 := fun k => between k se 0 60
  have h3 := fun k => between k st 0 se
  have h4 := fun k => verOk k te ts
  have h5 := fun k => baseOk k p0 p1 se st te ts hs ls es fe fs cs (by omega) (by omega) z1
  have h6 := fun k => logOkN k p0 p1 se st te ts hs ls es fe fs cs b1 b3 z1 z2
  have h7 := fun k => verOk k fe fs
  cases c0 : pgB p0 p1
  · rw [c0] at h1
    simp [F66, rcall141, rcall142, rcall143, rcall144, rcall145, rcall110, rcall38, rcall146, h1]
  rw [c0] at h1
  cases c1 : inB se 0 60
  · rw [c1] at h2
    simp [F66, rcall141, rcall142, rcall143, rcall144, rcall145, rcall110, rcall38, rcall146, h1, h2]
  rw [c1] at h2
  cases c2 : inB st 0 se
  · rw [c2] at h3
    simp [F66, rcall141, rcall142, rcall143, rcall144, rcall145, rcall110, rcall38, rcall146, h1, h2, h3]
  rw [c2] at h3
  cases c3 : verB te ts
  · rw [c3] at h4
    simp [F66, rcall141, rcall142, rcall143, rcall144, rcall145, rcall110, rcall38, rcall146, h1, h2, h3, h4]
  rw [c3] at h4
  cases c4 : baseB te ts hs ls
  · rw [c4] at h5
    simp [F66, rcall141, rcall142, rcall143, rcall144, rcall145, rcall110, rcall38, rcall146, h1, h2, h3, h4, h5]
  rw [c4] at h5
  have hsr : Srt hs := srt_of (by unfold baseB at c4; simp only [Bool.and_eq_true] at c4; exact c4.1)
  have hlq := logB_eq hsr te ts es
  rw [hlq] at h6
  cases c5 : lgB te ts hs es
  · rw [c5] at h6
    simp [F66, rcall141, rcall142, rcall143, rcall144, rcall145, rcall110, rcall38, rcall146, h1, h2, h3, h4, h5, h6]
  rw [c5] at h6
  cases c6 : verB fe fs
  · rw [c6] at h7
    simp [F66, rcall141, rcall142, rcall143, rcall144, rcall145, rcall110, rcall38, rcall146, h1, h2, h3, h4, h5, h6, h7]
  rw [c6] at h7
  cases c7 : lessB (lsE te (·.Ver_Epoch) es) (lsE ts (·.Ver_Seq) es) fe fs
  rotate_left
  · rw [c7] at h9
    simp [F66, rcall141, rcall142, rcall143, rcall144, rcall145, rcall110, rcall38, rcall146, h1, h2, h3, h4, h5, h6, h7, h8, h9]
  rw [c7] at h9
  cases c8 : chksB cs <;> rw [c8] at h10 <;> simp [F66, rcall141, rcall142, rcall143, rcall144, rcall145, rcall110, rcall38, rcall146, h1, h2, h3, h4, h5, h6, h7, h8, h9, h10]
theorem stateB_S (p0 p1 se st te ts : Int) (hs : List GHead) (ls : List GLast) (es : List GEntry) (fe fs : Int) (cs : List GChunk) : stateB p0 p1 se st te ts hs ls es fe fs cs = (pgB p0 p1 && (inB se 0 60 && (inB st 0 se && (verB te ts && (verB fe fs && ((headsA te ts hs && decide ((hs.length : Int) ≤ 16)) && ((lastsA te ts ls && decide ((ls.length : Int) ≤ 6)) && (lgB te ts hs es && (!lessB (lsE te (·.Ver_Epoch) es) (lsE ts (·.Ver_Seq) es) fe fs && chksB cs))))))))) := by
  unfold stateB baseB
  ac_rfl
set_option maxRecDepth 100000 in
set_option maxHeartbeats 64000000 in
theorem stateOkS (k : Nat) (p0 p1 se st te ts : Int) (hs : List GHead) (ls : List GLast) (es : List GEntry) (fe fs : Int) (cs : List GChunk) (b1 : hs.length ≤ 1048576) (b2 : ls.length ≤ 1048576) (b3 : es.length ≤ 1048576) (b4 : cs.length ≤ 1048576) (z1 : ∀ c ∈ hs, c.Name.size ≤ 1048576) (z2 : ∀ c ∈ es, c.Name.size ≤ 1048576) (z3 : ∀ c ∈ cs, c.Name.size ≤ 1048576) : call code (k + 7) 29 [psV p0 p1 se st te ts hs ls es fe fs cs] [] = some ⟨.bool (stateB p0 p1 se st te ts hs ls es fe fs cs), [], []⟩ := by
  refine call_run rfl fn29 rfl ?_
  rw [stateB_S]
  have h9 := fun k => l17LastOf k p0 p1 se st te ts hs ls es fe fs cs b3
  have h10 := fun k => verLessS k (lsE te (·.Ver_Epoch) es) (lsE ts (·.Ver_Seq) es) fe fs
  have h11 := fun k => l17Chunks k cs (by omega) z3
  unfold psV at *
  have h1 := fun k => l17Pg k p0 p1
  have h2 := fun k => l00In k se 0 60
  have h3 := fun k => l00In k st 0 se
  have h4 := fun k => l17Ver k te ts
  have h5 := fun k => l17Ver k fe fs
  have h6 := fun k => l17Heads k te ts hs (by omega) z1
  have h7 := fun k => l17Lasts k te ts ls (by omega)
  have h8 := fun k => l17Log k p0 p1 se st te ts hs ls es fe fs cs b1 (by omega) z2
  cases c0 : pgB p0 p1
  · rw [c0] at h1
    simp [F29, rcall96, rcall97, rcall98, rcall99, rcall100, rcall101, rcall102, rcall83, rcall103, h1]
  rw [c0] at h1
  cases c1 : inB se 0 60
  · rw [c1] at h2
    simp [F29, rcall96, rcall97, rcall98, rcall99, rcall100, rcall101, rcall102, rcall83, rcall103, h1, h2]
  rw [c1] at h2
  cases c2 : inB st 0 se
  · rw [c2] at h3
    simp [F29, rcall96, rcall97, rcall98, rcall99, rcall100, rcall101, rcall102, rcall83, rcall103, h1, h2, h3]
  rw [c2] at h3
  cases c3 : verB te ts
  · rw [c3] at h4
    simp [F29, rcall96, rcall97, rcall98, rcall99, rcall100, rcall101, rcall102, rcall83, rcall103, h1, h2, h3, h4]
  rw [c3] at h4
  cases c4 : verB fe fs
  · rw [c4] at h5
    simp [F29, rcall96, rcall97, rcall98, rcall99, rcall100, rcall101, rcall102, rcall83, rcall103, h1, h2, h3, h4, h5]
  rw [c4] at h5
  cases c5 : (headsA te ts hs && decide ((hs.length : Int) ≤ 16))
  · rw [c5] at h6
    simp [F29, rcall96, rcall97, rcall98, rcall99, rcall100, rcall101, rcall102, rcall83, rcall103, h1, h2, h3, h4, h5, h6]
  rw [c5] at h6
  cases c6 : (lastsA te ts ls && decide ((ls.length : Int) ≤ 6))
  · rw [c6] at h7
    simp [F29, rcall96, rcall97, rcall98, rcall99, rcall100, rcall101, rcall102, rcall83, rcall103, h1, h2, h3, h4, h5, h6, h7]
  rw [c6] at h7
  cases c7 : lgB te ts hs es
  · rw [c7] at h8
    simp [F29, rcall96, rcall97, rcall98, rcall99, rcall100, rcall101, rcall102, rcall83, rcall103, h1, h2, h3, h4, h5, h6, h7, h8]
  rw [c7] at h8
  cases c8 : lessB (lsE te (·.Ver_Epoch) es) (lsE ts (·.Ver_Seq) es) fe fs
  rotate_left
  · rw [c8] at h10
    simp [F29, rcall96, rcall97, rcall98, rcall99, rcall100, rcall101, rcall102, rcall83, rcall103, h1, h2, h3, h4, h5, h6, h7, h8, h9, h10]
  rw [c8] at h10
  cases c9 : chksB cs <;> rw [c9] at h11 <;> simp [F29, rcall96, rcall97, rcall98, rcall99, rcall100, rcall101, rcall102, rcall83, rcall103, h1, h2, h3, h4, h5, h6, h7, h8, h9, h10, h11]
end Go.Ae.GA.B
namespace Go.Ae.GA.B
set_option linter.unusedSimpArgs false
set_option linter.unusedVariables false
abbrev resPS (p0 p1 se st te ts : Int) (hs : List GHead) (ls : List GLast) (es : List GEntry) (fe fs : Int) (cs : List GChunk) : Res :=
  ⟨.agg [.int .i64 p0, .int .i64 p1, .int .i64 se, .int .i64 st, .int .i64 te, .int .i64 ts, .sl 0 0 0 [] 0 hs.length, .sl 0 1 0 [] 0 ls.length, .sl 0 2 0 [] 0 es.length, .int .i64 fe, .int .i64 fs, .sl 0 3 0 [] 0 cs.length],
   [⟨0, 5, false, true, rws GHead.enc hs⟩, ⟨0, 4, false, true, rws GLast.enc ls⟩, ⟨0, 10, false, true, rws GEntry.enc es⟩, ⟨0, 6, false, true, rws GChunk.enc cs⟩], []⟩
theorem cloneH (k : Nat) (hs : List GHead) (hn : hs.length ≤ 1048576) : call code (k + 1) 178 [.rd true (rws GHead.enc hs)] [] = some ⟨.sl 0 0 0 [] 0 hs.length, [⟨0, 5, false, true, rws GHead.enc hs⟩], []⟩ :=
  clone_ok (enc := GHead.enc) (sz := 5) (bytes := 48) (zero := [.str ByteArray.empty, .int .i64 0, .int .i64 0, .int .i64 0, .int .i64 0]) rfl rfl (fun _ => rfl) (by omega) rfl rfl hs (by omega) (by omega) k
theorem cloneL (k : Nat) (ls : List GLast) (hn : ls.length ≤ 1048576) : call code (k + 1) 182 [.rd true (rws GLast.enc ls)] [] = some ⟨.sl 0 0 0 [] 0 ls.length, [⟨0, 4, false, true, rws GLast.enc ls⟩], []⟩ :=
  clone_ok (enc := GLast.enc) (sz := 4) (bytes := 32) (zero := [.int .i64 0, .int .i64 0, .int .i64 0, .int .i64 0]) rfl rfl (fun _ => rfl) (by omega) rfl rfl ls (by omega) (by omega) k
theorem cloneE (k : Nat) (es : List GEntry) (hn : es.length ≤ 1048576) : call code (k + 1) 189 [.rd true (rws GEntry.enc es)] [] = some ⟨.sl 0 0 0 [] 0 es.length, [⟨0, 10, false, true, rws GEntry.enc es⟩], []⟩ :=
  clone_ok (enc := GEntry.enc) (sz := 10) (bytes := 88) (zero := [.int .i64 0, .int .i64 0, .int .i64 0, .int .i64 0, .str ByteArray.empty, .bool false, .int .i64 0, .int .i64 0, .int .i64 0, .int .i64 0]) rfl rfl (fun _ => rfl) (by omega) rfl rfl es (by omega) (by omega) k
theorem cloneC (k : Nat) (cs : List GChunk) (hn : cs.length ≤ 1048576) : call code (k + 1) 208 [.rd true (rws GChunk.enc cs)] [] = some ⟨.sl 0 0 0 [] 0 cs.length, [⟨0, 6, false, true, rws GChunk.enc cs⟩], []⟩ :=
  clone_ok (enc := GChunk.enc) (sz := 6) (bytes := 64) (zero := [.str ByteArray.empty, .int .i64 0, .int .i64 0, .int .i64 0, .int .i64 0, .str ByteArray.empty]) rfl rfl (fun _ => rfl) (by omega) rfl rfl cs (by omega) (by omega) k
set_option maxRecDepth 100000 in
set_option maxHeartbeats 64000000 in
theorem clone (k : Nat) (p0 p1 se st te ts : Int) (hs : List GHead) (ls : List GLast) (es : List GEntry) (fe fs : Int) (cs : List GChunk) (b1 : hs.length ≤ 1048576) (b2 : ls.length ≤ 1048576) (b3 : es.length ≤ 1048576) (b4 : cs.length ≤ 1048576) :
    call code (k + 2) 147 [psV p0 p1 se st te ts hs ls es fe fs cs] [] = some (resPS p0 p1 se st te ts hs ls es fe fs cs) := by
  refine call_run rfl fn147 rfl ?_
  have c1 := fun k => cloneH k hs b1
  have c2 := fun k => cloneL k ls b2
  have c3 := fun k => cloneE k es b3
  have c4 := fun k => cloneC k cs b4
  have l1 := rws_len (enc := GHead.enc) hs
  have l2 := rws_len (enc := GLast.enc) ls
  have l3 := rws_len (enc := GEntry.enc) es
  have l4 := rws_len (enc := GChunk.enc) cs
  have k1 := tkE (enc := GHead.enc) (l := hs) rfl
  have k2 := tkE (enc := GLast.enc) (l := ls) rfl
  have k3 := tkE (enc := GEntry.enc) (l := es) rfl
  have k4 := tkE (enc := GChunk.enc) (l := cs) rfl
  unfold psV resPS
  generalize rws GHead.enc hs = R1 at *
  generalize rws GLast.enc ls = R2 at *
  generalize rws GEntry.enc es = R3 at *
  generalize rws GChunk.enc cs = R4 at *
  simp [F147, rcall178, rcall182, rcall189, rcall208, c1, c2, c3, c4, storeM, l1, l2, l3, l4, k1, k2, k3, k4]
theorem rowsL {α : Type} {enc : α → List AV} {n : Nat} (h : ∀ x, (enc x).length = n) (l : List α) : ∀ y ∈ rws enc l, y.length = n := fun y hy => by
  simp only [rws, List.mem_map] at hy
  obtain ⟨x, _, rfl⟩ := hy
  exact h x
set_option maxRecDepth 100000 in
set_option maxHeartbeats 64000000 in
theorem l17Copy (k : Nat) (p0 p1 se st te ts : Int) (hs : List GHead) (ls : List GLast) (es : List GEntry) (fe fs : Int) (cs : List GChunk) (b1 : hs.length ≤ 1048576) (b2 : ls.length ≤ 1048576) (b3 : es.length ≤ 1048576) (b4 : cs.length ≤ 1048576) :
    call code (k + 2) 59 [psV p0 p1 se st te ts hs ls es fe fs cs] [] = some (resPS p0 p1 se st te ts hs ls es fe fs cs) := by
  refine call_run rfl fn59 rfl ?_
  have l1 := rws_len (enc := GHead.enc) hs
  have l2 := rws_len (enc := GLast.enc) ls
  have l3 := rws_len (enc := GEntry.enc) es
  have l4 := rws_len (enc := GChunk.enc) cs
  have k1 := tkE (enc := GHead.enc) (l := hs) rfl
  have k2 := tkE (enc := GLast.enc) (l := ls) rfl
  have k3 := tkE (enc := GEntry.enc) (l := es) rfl
  have k4 := tkE (enc := GChunk.enc) (l := cs) rfl
  have r1 := rowsL (enc := GHead.enc) (n := 5) (fun _ => rfl) hs
  have r2 := rowsL (enc := GLast.enc) (n := 4) (fun _ => rfl) ls
  have r3 := rowsL (enc := GEntry.enc) (n := 10) (fun _ => rfl) es
  have r4 := rowsL (enc := GChunk.enc) (n := 6) (fun _ => rfl) cs
  unfold psV resPS
  generalize rws GHead.enc hs = R1 at *
  generalize rws GLast.enc ls = R2 at *
  generalize rws GEntry.enc es = R3 at *
  generalize rws GChunk.enc cs = R4 at *
  simp [F59, storeM, evalW, source, l1, l2, l3, l4, k1, k2, k3, k4]
  repeat' apply And.intro
  all_goals first | exact r1 | exact r2 | exact r3 | exact r4 | omega | rfl
end Go.Ae.GA.B
namespace Go.Ae.GA.B
set_option linter.unusedSimpArgs false
set_option linter.unusedVariables false
theorem ps_inv {cs : List AV} (f0 : FitsAll [.int .i64, .int .i64, .int .i64, .int .i64, .int .i64, .int .i64, .sl 48 [.str, .int .i64, .int .i64, .int .i64, .int .i64], .sl 32 [.int .i64, .int .i64, .int .i64, .int .i64], .sl 88 [.int .i64, .int .i64, .int .i64, .int .i64, .str, .bool, .int .i64, .int .i64, .int .i64, .int .i64], .int .i64, .int .i64, .sl 64 [.str, .int .i64, .int .i64, .int .i64, .int .i64, .str]] cs) : ∃ (p0 p1 se st te ts : Int) (hs : List GHead) (ls : List GLast) (es : List GEntry) (fe fs : Int) (ks : List GChunk), .agg cs = psV p0 p1 se st te ts hs ls es fe fs ks ∧
    hs.length ≤ 140737488351232 ∧ (∀ x ∈ hs, x.ok) ∧ ls.length ≤ 140737488351232 ∧ es.length ≤ 140737488351232 ∧ (∀ x ∈ es, x.ok) ∧ ks.length ≤ 140737488351232 ∧ (∀ x ∈ ks, x.ok) := by
  obtain ⟨_, _, rfl, c0, f0⟩ := f0.cons_inv
  obtain ⟨_, _, rfl, c1, f0⟩ := f0.cons_inv
  obtain ⟨_, _, rfl, c2, f0⟩ := f0.cons_inv
  obtain ⟨_, _, rfl, c3, f0⟩ := f0.cons_inv
  obtain ⟨_, _, rfl, c4, f0⟩ := f0.cons_inv
  obtain ⟨_, _, rfl, c5, f0⟩ := f0.cons_inv
  obtain ⟨_, _, rfl, c6, f0⟩ := f0.cons_inv
  obtain ⟨_, _, rfl, c7, f0⟩ := f0.cons_inv
  obtain ⟨_, _, rfl, c8, f0⟩ := f0.cons_inv
  obtain ⟨_, _, rfl, c9, f0⟩ := f0.cons_inv
  obtain ⟨_, _, rfl, c10, f0⟩ := f0.cons_inv
  obtain ⟨_, _, rfl, c11, f0⟩ := f0.cons_inv
  obtain rfl := f0.nil_inv
  obtain ⟨v0, rfl, _⟩ := c0.i64_inv
  obtain ⟨v1, rfl, _⟩ := c1.i64_inv
  obtain ⟨v2, rfl, _⟩ := c2.i64_inv
  obtain ⟨v3, rfl, _⟩ := c3.i64_inv
  obtain ⟨v4, rfl, _⟩ := c4.i64_inv
  obtain ⟨v5, rfl, _⟩ := c5.i64_inv
  obtain ⟨v9, rfl, _⟩ := c9.i64_inv
  obtain ⟨v10, rfl, _⟩ := c10.i64_inv
  obtain ⟨xs6, rfl, l6, r6⟩ := c6.sl_inv
  obtain ⟨hs, rfl, o6⟩ := fitHeadS r6
  rw [rws_len] at l6
  obtain ⟨xs7, rfl, l7, r7⟩ := c7.sl_inv
  obtain ⟨ls, rfl, o7⟩ := fitLastS r7
  rw [rws_len] at l7
  obtain ⟨xs8, rfl, l8, r8⟩ := c8.sl_inv
  obtain ⟨es, rfl, o8⟩ := fitEntryS r8
  rw [rws_len] at l8
  obtain ⟨xs11, rfl, l11, r11⟩ := c11.sl_inv
  obtain ⟨ks, rfl, o11⟩ := fitChunkS r11
  rw [rws_len] at l11
  exact ⟨v0, v1, v2, v3, v4, v5, hs, ls, es, v9, v10, ks, rfl, by omega, o6, by omega, by omega, o8, by omega, o11⟩
end Go.Ae.GA.B
