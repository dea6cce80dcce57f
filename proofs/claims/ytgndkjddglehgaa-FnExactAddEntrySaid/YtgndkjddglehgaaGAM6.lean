/- A state's check: the program's and the reference's. -/
import Derived.Test.YtgndkjddglehgaaGAM4
import Derived.Test.YtgndkjddglehgaaGAM5
namespace Go.Ae.GA
set_option linter.unusedSimpArgs false
set_option linter.unusedVariables false
/-- The last entry's version, or the tail. -/
def lsE (te : Int) (f : GEntry → Int) (es : List GEntry) : Int := match es[es.length - 1]? with
  | some e => f e
  | none => te
theorem lsE_nil (te : Int) (f : GEntry → Int) : lsE te f [] = te := rfl
theorem lsE_at {te : Int} {f : GEntry → Int} {es : List GEntry} (h : es.length - 1 < es.length) : lsE te f es = f es[es.length - 1] := by
  unfold lsE; rw [List.getElem?_eq_getElem h]
theorem lastG (k : Nat) (es : List GEntry) (h0 : es.length - 1 < es.length) (hn : es.length ≤ 1048576) : call code (k + 1) 91 [.rd true (rws GEntry.enc es)] [] = some ⟨.agg (GEntry.enc es[es.length - 1]), [], []⟩ := by
  refine call_run rfl fn91 rfl ?_
  have hg : ∀ hh, (rws GEntry.enc es)[es.length - 1]'hh = GEntry.enc es[es.length - 1] := fun hh => rws_get ..
  have hrl := rws_len (enc := GEntry.enc) es
  have w : IntKind.wrap .i64 ((es.length : Int) - 1) = ((es.length - 1 : Nat) : Int) := by rw [wrap64 ⟨by omega, by omega⟩]; omega
  simp only [GEntry.enc] at hg ⊢
  generalize rws GEntry.enc es = R at *
  generalize hix : es.length - 1 = ix at *
  simp [F91, w, hrl, h0, hg, storeM]
set_option maxHeartbeats 4000000 in
theorem lastVer (k : Nat) (p0 p1 se st te ts : Int) (hs : List GHead) (ls : List GLast) (es : List GEntry) (fe fs : Int) (cs : List GChunk) (b3 : es.length ≤ 1048576) : call code (k + 2) 70 [psV p0 p1 se st te ts hs ls es fe fs cs] [] = some ⟨.agg [.int .i64 (lsE te (·.Ver_Epoch) es), .int .i64 (lsE ts (·.Ver_Seq) es)], [], []⟩ := by
  refine call_run rfl fn70 rfl ?_
  rcases Nat.eq_zero_or_pos es.length with h | h
  · have : es = [] := List.length_eq_zero_iff.1 h
    subst this
    simp [F70, storeM, lsE_nil]
  · have h0 : es.length - 1 < es.length := by omega
    have l := fun k => lastG k es h0 (by omega)
    have h1 : ¬ es.length = 0 := by omega
    have h2 : ¬ es = [] := fun e => h1 (by rw [e]; rfl)
    have hrl := rws_len (enc := GEntry.enc) es
    rw [lsE_at h0, lsE_at h0]
    simp only [GEntry.enc] at l
    have d : ((es.length : Int) == 0) = false := by rw [beq_eq_false_iff_ne]; omega
    simp [F70, storeM, rcall91, l, h1, h2, hrl, d]
set_option maxHeartbeats 4000000 in
theorem l17LastOf (k : Nat) (p0 p1 se st te ts : Int) (hs : List GHead) (ls : List GLast) (es : List GEntry) (fe fs : Int) (cs : List GChunk) (b3 : es.length ≤ 1048576) : call code (k + 2) 45 [psV p0 p1 se st te ts hs ls es fe fs cs] [] = some ⟨.agg [.int .i64 (lsE te (·.Ver_Epoch) es), .int .i64 (lsE ts (·.Ver_Seq) es)], [], []⟩ := by
  refine call_run rfl fn45 rfl ?_
  rcases Nat.eq_zero_or_pos es.length with h | h
  · have : es = [] := List.length_eq_zero_iff.1 h
    subst this
    simp [F45, storeM, lsE_nil]
  · have h0 : es.length - 1 < es.length := by omega
    have hg : ∀ hh, (rws GEntry.enc es)[es.length - 1]'hh = GEntry.enc es[es.length - 1] := fun hh => rws_get ..
    have hrl := rws_len (enc := GEntry.enc) es
    have w : IntKind.wrap .i64 ((es.length : Int) - 1) = ((es.length - 1 : Nat) : Int) := by rw [wrap64 ⟨by omega, by omega⟩]; omega
    rw [lsE_at h0, lsE_at h0]
    have h3 : (0 : Int) < es.length := by omega
    simp only [GEntry.enc] at hg
    generalize rws GEntry.enc es = R at *
    generalize hix : es.length - 1 = ix at *
    simp [F45, storeM, w, hrl, h0, hg, h, h3, GEntry.enc]
theorem srt_of {te ts : Int} {hs : List GHead} (h : headsA te ts hs = true) : Srt hs := by
  have h1 := range_all.1 h
  have step : ∀ i (hi : i + 1 < hs.length), Op.bytesLess (nmH (hs[i]'(by omega))) (nmH hs[i + 1]) = true := fun i hi => by
    have := h1 (i + 1) hi
    rw [okH_succ hi (by omega)] at this
    simp only [Bool.and_eq_true] at this
    have h2 := this.2
    unfold ltN at h2
    rw [tlx, tlx] at h2
    exact h2
  have far : ∀ d i (hi : i + d + 1 < hs.length), Op.bytesLess (nmH (hs[i]'(by omega))) (nmH hs[i + d + 1]) = true := fun d => by
    induction d with
    | zero => exact fun i hi => step i hi
    | succ d ih =>
      intro i hi
      exact bl_trans _ _ _ (ih i (by omega)) (step (i + d + 1) hi)
  unfold Srt
  rw [List.pairwise_iff_getElem]
  intro i j hi hj hij
  have := far (j - i - 1) i (by omega)
  have e : i + (j - i - 1) + 1 = j := by omega
  simpa only [e] using this
theorem headsOf_rws : ∀ hs : List GHead, headsOf (rws GHead.enc hs) = some (hs.map (·.Name))
  | [] => rfl
  | h :: r => by
    have := headsOf_rws r
    rw [rws_cons]
    simp only [GHead.enc, headsOf]
    rw [this]; rfl
theorem entsOf_rws : ∀ es : List GEntry, entsOf (rws GEntry.enc es) = some (es.map toEnt)
  | [] => rfl
  | e :: r => by
    have := entsOf_rws r
    rw [rws_cons]
    simp only [GEntry.enc, entsOf, entOf]
    rw [this]; rfl
theorem logOkN (k : Nat) (p0 p1 se st te ts : Int) (hs : List GHead) (ls : List GLast) (es : List GEntry) (fe fs : Int) (cs : List GChunk) (b1 : hs.length ≤ 1048576) (b3 : es.length ≤ 1048576) (z1 : ∀ c ∈ hs, c.Name.size ≤ 1048576) (z2 : ∀ c ∈ es, c.Name.size ≤ 1048576) : call code (k + 1) 68 [psV p0 p1 se st te ts hs ls es fe fs cs] [] = some ⟨.bool (logB te ts (hs.map (·.Name)) (es.map toEnt)), [], []⟩ := by
  refine nat68 k _ _ _ _ ?_
  unfold natLogOk
  simp only [headsOf_rws, entsOf_rws]
  rw [if_pos]
  refine ⟨fun s hs' => ?_, fun e he => ?_, by simp; omega, by simp; omega⟩
  · obtain ⟨h, hh, rfl⟩ := List.mem_map.1 hs'
    exact z1 h hh
  · obtain ⟨x, hx, rfl⟩ := List.mem_map.1 he
    exact z2 x hx
def stateB (p0 p1 se st te ts : Int) (hs : List GHead) (ls : List GLast) (es : List GEntry) (fe fs : Int) (cs : List GChunk) : Bool := pgB p0 p1 && (inB se 0 60 && (inB st 0 se && (verB te ts && (baseB te ts hs ls && (lgB te ts hs es && (verB fe fs && (!lessB (lsE te (·.Ver_Epoch) es) (lsE ts (·.Ver_Seq) es) fe fs && chksB cs)))))))
end Go.Ae.GA
namespace Go.Ae.GA
set_option linter.unusedSimpArgs false
set_option linter.unusedVariables false
set_option maxRecDepth 100000 in
set_option maxHeartbeats 64000000 in
theorem stateOk (k : Nat) (p0 p1 se st te ts : Int) (hs : List GHead) (ls : List GLast) (es : List GEntry) (fe fs : Int) (cs : List GChunk) (b1 : hs.length ≤ 1048576) (b2 : ls.length ≤ 1048576) (b3 : es.length ≤ 1048576) (b4 : cs.length ≤ 1048576) (z1 : ∀ c ∈ hs, c.Name.size ≤ 1048576) (z2 : ∀ c ∈ es, c.Name.size ≤ 1048576) (z3 : ∀ c ∈ cs, c.Name.size ≤ 1048576) : call code (k + 7) 28 [psV p0 p1 se st te ts hs ls es fe fs cs] [] = some ⟨.bool (stateB p0 p1 se st te ts hs ls es fe fs cs), [], []⟩ := by
  refine call_run rfl fn28 rfl ?_
  unfold stateB
  have h8 := fun k => lastVer k p0 p1 se st te ts hs ls es fe fs cs b3
  have h9 := fun k => verLess k (lsE te (·.Ver_Epoch) es) (lsE ts (·.Ver_Seq) es) fe fs
  have h10 := fun k => chunksOk k p0 p1 se st te ts hs ls es fe fs cs (by omega) z3
  unfold psV at *
  have h1 := fun k => pgOk k p0 p1
  have h2 := fun k => between k se 0 60
  have h3 := fun k => between k st 0 se
  have h4 := fun k => verOk k te ts
  have h5 := fun k => baseOk k p0 p1 se st te ts hs ls es fe fs cs (by omega) (by omega) z1
  have h6 := fun k => logOkN k p0 p1 se st te ts hs ls es fe fs cs b1 b3 z1 z2
  have h7 := fun k => verOk k fe fs
  cases c0 : pgB p0 p1
  · rw [c0] at h1
    simp [F28, rcall64, rcall65, rcall66, rcall67, rcall68, rcall70, rcall69, rcall71, h1]
  rw [c0] at h1
  cases c1 : inB se 0 60
  · rw [c1] at h2
    simp [F28, rcall64, rcall65, rcall66, rcall67, rcall68, rcall70, rcall69, rcall71, h1, h2]
  rw [c1] at h2
  cases c2 : inB st 0 se
  · rw [c2] at h3
    simp [F28, rcall64, rcall65, rcall66, rcall67, rcall68, rcall70, rcall69, rcall71, h1, h2, h3]
  rw [c2] at h3
  cases c3 : verB te ts
  · rw [c3] at h4
    simp [F28, rcall64, rcall65, rcall66, rcall67, rcall68, rcall70, rcall69, rcall71, h1, h2, h3, h4]
  rw [c3] at h4
  cases c4 : baseB te ts hs ls
  · rw [c4] at h5
    simp [F28, rcall64, rcall65, rcall66, rcall67, rcall68, rcall70, rcall69, rcall71, h1, h2, h3, h4, h5]
  rw [c4] at h5
  have hsr : Srt hs := srt_of (by unfold baseB at c4; simp only [Bool.and_eq_true] at c4; exact c4.1)
  have hlq := logB_eq hsr te ts es
  rw [hlq] at h6
  cases c5 : lgB te ts hs es
  · rw [c5] at h6
    simp [F28, rcall64, rcall65, rcall66, rcall67, rcall68, rcall70, rcall69, rcall71, h1, h2, h3, h4, h5, h6]
  rw [c5] at h6
  cases c6 : verB fe fs
  · rw [c6] at h7
    simp [F28, rcall64, rcall65, rcall66, rcall67, rcall68, rcall70, rcall69, rcall71, h1, h2, h3, h4, h5, h6, h7]
  rw [c6] at h7
  cases c7 : lessB (lsE te (·.Ver_Epoch) es) (lsE ts (·.Ver_Seq) es) fe fs
  rotate_left
  · rw [c7] at h9
    simp [F28, rcall64, rcall65, rcall66, rcall67, rcall68, rcall70, rcall69, rcall71, h1, h2, h3, h4, h5, h6, h7, h8, h9]
  rw [c7] at h9
  cases c8 : chksB cs <;> rw [c8] at h10 <;> simp [F28, rcall64, rcall65, rcall66, rcall67, rcall68, rcall70, rcall69, rcall71, h1, h2, h3, h4, h5, h6, h7, h8, h9, h10]
theorem stateB_S (p0 p1 se st te ts : Int) (hs : List GHead) (ls : List GLast) (es : List GEntry) (fe fs : Int) (cs : List GChunk) : stateB p0 p1 se st te ts hs ls es fe fs cs = (pgB p0 p1 && (inB se 0 60 && (inB st 0 se && (verB te ts && (verB fe fs && ((headsA te ts hs && decide ((hs.length : Int) ≤ 16)) && ((lastsA te ts ls && decide ((ls.length : Int) ≤ 6)) && (lgB te ts hs es && (!lessB (lsE te (·.Ver_Epoch) es) (lsE ts (·.Ver_Seq) es) fe fs && chksB cs))))))))) := by
  unfold stateB baseB
  ac_rfl
set_option maxRecDepth 100000 in
set_option maxHeartbeats 64000000 in
theorem stateOkS (k : Nat) (p0 p1 se st te ts : Int) (hs : List GHead) (ls : List GLast) (es : List GEntry) (fe fs : Int) (cs : List GChunk) (b1 : hs.length ≤ 1048576) (b2 : ls.length ≤ 1048576) (b3 : es.length ≤ 1048576) (b4 : cs.length ≤ 1048576) (z1 : ∀ c ∈ hs, c.Name.size ≤ 1048576) (z2 : ∀ c ∈ es, c.Name.size ≤ 1048576) (z3 : ∀ c ∈ cs, c.Name.size ≤ 1048576) : call code (k + 7) 20 [psV p0 p1 se st te ts hs ls es fe fs cs] [] = some ⟨.bool (stateB p0 p1 se st te ts hs ls es fe fs cs), [], []⟩ := by
  refine call_run rfl fn20 rfl ?_
  rw [stateB_S]
  have h9 := fun k => l17LastOf k p0 p1 se st te ts hs ls es fe fs cs b3
  have h10 := fun k => verLessS k (lsE te (·.Ver_Epoch) es) (lsE ts (·.Ver_Seq) es) fe fs
  have h11 := fun k => l17Chunks k cs (by omega) z3
  unfold psV at *
  have h1 := fun k => l17Pg k p0 p1
  have h2 := fun k => l00In k se 0 60
  have h3 := fun k => l00In k st 0 se
  have h4 := fun k => l17Ver k te ts
  have h5 := fun k => l17Ver k fe fs
  have h6 := fun k => l17Heads k te ts hs (by omega) z1
  have h7 := fun k => l17Lasts k te ts ls (by omega)
  have h8 := fun k => l17Log k p0 p1 se st te ts hs ls es fe fs cs b1 (by omega) z2
  cases c0 : pgB p0 p1
  · rw [c0] at h1
    simp [F20, rcall53, rcall54, rcall55, rcall56, rcall57, rcall58, rcall45, rcall59, rcall60, h1]
  rw [c0] at h1
  cases c1 : inB se 0 60
  · rw [c1] at h2
    simp [F20, rcall53, rcall54, rcall55, rcall56, rcall57, rcall58, rcall45, rcall59, rcall60, h1, h2]
  rw [c1] at h2
  cases c2 : inB st 0 se
  · rw [c2] at h3
    simp [F20, rcall53, rcall54, rcall55, rcall56, rcall57, rcall58, rcall45, rcall59, rcall60, h1, h2, h3]
  rw [c2] at h3
  cases c3 : verB te ts
  · rw [c3] at h4
    simp [F20, rcall53, rcall54, rcall55, rcall56, rcall57, rcall58, rcall45, rcall59, rcall60, h1, h2, h3, h4]
  rw [c3] at h4
  cases c4 : verB fe fs
  · rw [c4] at h5
    simp [F20, rcall53, rcall54, rcall55, rcall56, rcall57, rcall58, rcall45, rcall59, rcall60, h1, h2, h3, h4, h5]
  rw [c4] at h5
  cases c5 : (headsA te ts hs && decide ((hs.length : Int) ≤ 16))
  · rw [c5] at h6
    simp [F20, rcall53, rcall54, rcall55, rcall56, rcall57, rcall58, rcall45, rcall59, rcall60, h1, h2, h3, h4, h5, h6]
  rw [c5] at h6
  cases c6 : (lastsA te ts ls && decide ((ls.length : Int) ≤ 6))
  · rw [c6] at h7
    simp [F20, rcall53, rcall54, rcall55, rcall56, rcall57, rcall58, rcall45, rcall59, rcall60, h1, h2, h3, h4, h5, h6, h7]
  rw [c6] at h7
  cases c7 : lgB te ts hs es
  · rw [c7] at h8
    simp [F20, rcall53, rcall54, rcall55, rcall56, rcall57, rcall58, rcall45, rcall59, rcall60, h1, h2, h3, h4, h5, h6, h7, h8]
  rw [c7] at h8
  cases c8 : lessB (lsE te (·.Ver_Epoch) es) (lsE ts (·.Ver_Seq) es) fe fs
  rotate_left
  · rw [c8] at h10
    simp [F20, rcall53, rcall54, rcall55, rcall56, rcall57, rcall58, rcall45, rcall59, rcall60, h1, h2, h3, h4, h5, h6, h7, h8, h9, h10]
  rw [c8] at h10
  cases c9 : chksB cs <;> rw [c9] at h11 <;> simp [F20, rcall53, rcall54, rcall55, rcall56, rcall57, rcall58, rcall45, rcall59, rcall60, h1, h2, h3, h4, h5, h6, h7, h8, h9, h10, h11]
end Go.Ae.GA
