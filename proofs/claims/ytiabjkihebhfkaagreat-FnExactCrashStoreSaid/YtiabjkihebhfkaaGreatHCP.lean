/- A state's check: the program's and the reference's. -/
import Derived.Test.YtiabjkihebhfkaaGreatHCO
import Derived.Test.YtiabjkihebhfkaaGreatHCJ
namespace Go.Ae.GA.B
set_option linter.unusedSimpArgs false
set_option linter.unusedVariables false
/-- The last entry's version, or the tail. -/
def lsE (te : Int) (f : GEntry → Int) (es : List GEntry) : Int := match es[es.length - 1]? with
  | some e => f e
  | none => te
theorem lsE_nil (te : Int) (f : GEntry → Int) : lsE te f [] = te := rfl
theorem lsE_at {te : Int} {f : GEntry → Int} {es : List GEntry} (h : es.length - 1 < es.length) : lsE te f es = f es[es.length - 1] := by
  unfold lsE; rw [List.getElem?_eq_getElem h]
theorem lastG (k : Nat) (es : List GEntry) (h0 : es.length - 1 < es.length) (hn : es.length ≤ 1048576) : call code (k + 1) 187 [.rd true (rws GEntry.enc es)] [] = some ⟨.agg (GEntry.enc es[es.length - 1]), [], []⟩ := by
  refine call_run rfl fn187 rfl ?_
  have hg : ∀ hh, (rws GEntry.enc es)[es.length - 1]'hh = GEntry.enc es[es.length - 1] := fun hh => rws_get ..
  have hrl := rws_len (enc := GEntry.enc) es
  have w : IntKind.wrap .i64 ((es.length : Int) - 1) = ((es.length - 1 : Nat) : Int) := by rw [wrap64 ⟨by omega, by omega⟩]; omega
  simp only [GEntry.enc] at hg ⊢
  generalize rws GEntry.enc es = R at *
  generalize hix : es.length - 1 = ix at *
  simp [F187, w, hrl, h0, hg, storeM]
set_option maxHeartbeats 4000000 in
theorem lastVer (k : Nat) (p0 p1 se st te ts : Int) (hs : List GHead) (ls : List GLast) (es : List GEntry) (fe fs : Int) (cs : List GChunk) (b3 : es.length ≤ 1048576) : call code (k + 2) 110 [psV p0 p1 se st te ts hs ls es fe fs cs] [] = some ⟨.agg [.int .i64 (lsE te (·.Ver_Epoch) es), .int .i64 (lsE ts (·.Ver_Seq) es)], [], []⟩ := by
  refine call_run rfl fn110 rfl ?_
  rcases Nat.eq_zero_or_pos es.length with h | h
  · have : es = [] := List.length_eq_zero_iff.1 h
    subst this
    simp [F110, storeM, lsE_nil]
  · have h0 : es.length - 1 < es.length := by omega
    have l := fun k => lastG k es h0 (by omega)
    have h1 : ¬ es.length = 0 := by omega
    have h2 : ¬ es = [] := fun e => h1 (by rw [e]; rfl)
    have hrl := rws_len (enc := GEntry.enc) es
    rw [lsE_at h0, lsE_at h0]
    simp only [GEntry.enc] at l
    have d : ((es.length : Int) == 0) = false := by rw [beq_eq_false_iff_ne]; omega
    simp [F110, storeM, rcall187, l, h1, h2, hrl, d]
set_option maxHeartbeats 4000000 in
theorem l17LastOf (k : Nat) (p0 p1 se st te ts : Int) (hs : List GHead) (ls : List GLast) (es : List GEntry) (fe fs : Int) (cs : List GChunk) (b3 : es.length ≤ 1048576) : call code (k + 2) 102 [psV p0 p1 se st te ts hs ls es fe fs cs] [] = some ⟨.agg [.int .i64 (lsE te (·.Ver_Epoch) es), .int .i64 (lsE ts (·.Ver_Seq) es)], [], []⟩ := by
  refine call_run rfl fn102 rfl ?_
  rcases Nat.eq_zero_or_pos es.length with h | h
  · have : es = [] := List.length_eq_zero_iff.1 h
    subst this
    simp [F102, storeM, lsE_nil]
  · have h0 : es.length - 1 < es.length := by omega
    have hg : ∀ hh, (rws GEntry.enc es)[es.length - 1]'hh = GEntry.enc es[es.length - 1] := fun hh => rws_get ..
    have hrl := rws_len (enc := GEntry.enc) es
    have w : IntKind.wrap .i64 ((es.length : Int) - 1) = ((es.length - 1 : Nat) : Int) := by rw [wrap64 ⟨by omega, by omega⟩]; omega
    rw [lsE_at h0, lsE_at h0]
    have h3 : (0 : Int) < es.length := by omega
    simp only [GEntry.enc] at hg
    generalize rws GEntry.enc es = R at *
    generalize hix : es.length - 1 = ix at *
    simp [F102, storeM, w, hrl, h0, hg, h, h3, GEntry.enc]
theorem srt_of {te ts : Int} {hs : List GHead} (h : headsA te ts hs = true) : Srt hs := by
  have h1 := range_all.1 h
  have step : ∀ i (hi : i + 1 < hs.length), Op.bytesLess (nmH (hs[i]'(by omega))) (nmH hs[i + 1]) = true := fun i hi => by
    have := h1 (i + 1) hi
    rw [okH_succ hi (by omega)] at this
    simp only [Bool.and_eq_true] at this
    have h2 := this.2
    unfold ltN at h2
    rw [tlx, tlx] at h2
    exact h2
  have far : ∀ d i (hi : i + d + 1 < hs.length), Op.bytesLess (nmH (hs[i]'(by omega))) (nmH hs[i + d + 1]) = true := fun d => by
    induction d with
    | zero => exact fun i hi => step i hi
    | succ d ih =>
      intro i hi
      exact bl_trans _ _ _ (ih i (by omega)) (step (i + d + 1) hi)
  unfold Srt
  rw [List.pairwise_iff_getElem]
  intro i j hi hj hij
  have := far (j - i - 1) i (by omega)
  have e : i + (j - i - 1) + 1 = j := by omega
  simpa only [e] using this
theorem headsOf_rws : ∀ hs : List GHead, headsOf (rws GHead.enc hs) = some (hs.map (·.Name))
  | [] => rfl
  | h :: r => by
    have := headsOf_rws r
    rw [rws_cons]
    simp only [GHead.enc, headsOf]
    rw [this]; rfl
theorem entsOf_rws : ∀ es : List GEntry, entsOf (rws GEntry.enc es) = some (es.map toEnt)
  | [] => rfl
  | e :: r => by
    have := entsOf_rws r
    rw [rws_cons]
    simp only [GEntry.enc, entsOf, entOf]
    rw [this]; rfl
theorem logOkN (k : Nat) (p0 p1 se st te ts : Int) (hs : List GHead) (ls : List GLast) (es : List GEntry) (fe fs : Int) (cs : List GChunk) (b1 : hs.length ≤ 1048576) (b3 : es.length ≤ 1048576) (z1 : ∀ c ∈ hs, c.Name.size ≤ 1048576) (z2 : ∀ c ∈ es, c.Name.size ≤ 1048576) : call code (k + 1) 145 [psV p0 p1 se st te ts hs ls es fe fs cs] [] = some ⟨.bool (logB te ts (hs.map (·.Name)) (es.map toEnt)), [], []⟩ := by
  refine nat145 k _ _ _ _ ?_
  unfold natLogOk
  simp only [headsOf_rws, entsOf_rws]
  rw [if_pos]
  refine ⟨fun s hs' => ?_, fun e he => ?_, by simp; omega, by simp; omega⟩
  · obtain ⟨h, hh, rfl⟩ := List.mem_map.1 hs'
    exact z1 h hh
  · obtain ⟨x, hx, rfl⟩ := List.mem_map.1 he
    exact z2 x hx
def stateB (p0 p1 se st te ts : Int) (hs : List GHead) (ls : List GLast) (es : List GEntry) (fe fs : Int) (cs : List GChunk) : Bool := pgB p0 p1 && (inB se 0 60 && (inB st 0 se && (verB te ts && (baseB te ts hs ls && (lgB te ts hs es && (verB fe fs && (!lessB (lsE te (·.Ver_Epoch) es) (lsE ts (·.Ver_Seq) es) fe fs && chksB cs)))))))
end Go.Ae.GA.B
