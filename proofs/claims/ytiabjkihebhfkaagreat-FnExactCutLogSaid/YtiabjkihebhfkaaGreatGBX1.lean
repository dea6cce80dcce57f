/- How many of the log are not beyond a version: the reference's. -/
import Derived.Test.YtiabjkihebhfkaaGreatGBM5
namespace Go.Ae.GA.B
set_option linter.unusedSimpArgs false
set_option linter.unusedVariables false
theorem isV_split (a b : Int) (e : GEntry) : (e.Ver_Epoch == a && e.Ver_Seq == b) = isV a b e := rfl
set_option maxRecDepth 100000 in
set_option maxHeartbeats 64000000 in
theorem l17Upto (k : Nat) (p0 p1 se st te ts : Int) (hs : List GHead) (ls : List GLast) (es : List GEntry) (fe fs : Int) (cs : List GChunk) (a b : Int) (b3 : es.length ≤ 1048576) : call code (k + 1) 82 [psV p0 p1 se st te ts hs ls es fe fs cs, .agg [.int .i64 a, .int .i64 b]] [] = some ⟨.int .i64 (upC te ts es a b), [], []⟩ := by
  refine call_run rfl fn82 rfl ?_
  have hrl := rws_len (enc := GEntry.enc) es
  have hgx : ∀ i (hi : i < es.length) (hh : i < (rws GEntry.enc es).length), (rws GEntry.enc es)[i]'hh = GEntry.enc es[i] := fun i hi hh => rws_get ..
  unfold psV at *
  generalize rws GEntry.enc es = ES at *
  generalize rws GHead.enc hs = R1 at *
  generalize rws GLast.enc ls = R2 at *
  generalize rws GChunk.enc cs = R4 at *
  have hup : ∀ {v : Int}, (a == te && b == ts) = false → (if idxP (isV a b) es < 0 then -1 else idxP (isV a b) es + 1) = v → upC te ts es a b = v := fun {v} h1 h2 => by unfold upC; rw [h1]; simpa using h2
  cases c0 : (a == te && b == ts)
  rotate_left
  · have hu : upC te ts es a b = 0 := by unfold upC; rw [c0]; rfl
    rw [hu]
    simp only [Bool.and_eq_true] at c0
    simp [F82, c0.1, c0.2]
  have hc0 : ((a == te && (b == ts && true))) = false := by simpa using c0
  simp [F82, hc0, c0, -Bool.and_eq_true, -Bool.and_eq_false_imp]
  refine RunC_loop (fun i : Nat => ⟨tm 27 [(2, .ptr 0 0 0 [] 0 0), (3, .ptr 0 256 0 [] 0 0), (5, .int .i64 i)], [(0, some ⟨0, 12, true, false, [[.int .i64 p0, .int .i64 p1, .int .i64 se, .int .i64 st, .int .i64 te, .int .i64 ts, .rd true R1, .rd true R2, .rd true ES, .int .i64 fe, .int .i64 fs, .rd true R4]]⟩), (256, some ⟨0, 2, true, false, [[.int .i64 a, .int .i64 b]]⟩)], []⟩)
    (fun i => i ≤ es.length ∧ ∀ (j : Nat) (hj : j < es.length), j < i → isV a b es[j] = false) (fun i => es.length - i) 0 ⟨Nat.zero_le _, fun j _ h => by omega⟩ (by simp; omega) (by simp [tm]) fun i hi _ => ?_
  obtain ⟨hi, hno⟩ := hi
  by_cases hlt : i < es.length
  · have hs' := idx_succ' hlt (by omega)
    have hg := hgx i hlt
    simp only [GEntry.enc] at hg
    cases hv : isV a b es[i]
    · have hv' := hv
      unfold isV at hv'
      simp [tm, hlt, hrl, hg, hv', hs', -Bool.and_eq_true, -Bool.and_eq_false_imp]
      refine ⟨i + 1, ⟨by omega, fun j hj hji => ?_⟩, by omega, by simp⟩
      rcases Nat.lt_succ_iff_lt_or_eq.1 hji with h | rfl
      · exact hno j hj h
      · exact hv
    · have hv' := hv
      unfold isV at hv'
      have hx : idxP (isV a b) es = i := idxP_some hlt hv fun j hj => hno j (by omega) hj
      have hu : upC te ts es a b = (i : Int) + 1 := hup c0 (by rw [hx]; simp; omega)
      simp only [Bool.and_eq_true] at hv'
      simp [tm, hlt, hrl, hg, hv'.1, hv'.2, hs', hu]
  · have : i = es.length := by omega
    subst this
    have hx : idxP (isV a b) es = -1 := idxP_none fun j hj => hno j hj hj
    have hu : upC te ts es a b = -1 := hup c0 (by rw [hx]; simp)
    simp [tm, hrl, hu]
end Go.Ae.GA.B
namespace Go.Ae.GA.B
set_option linter.unusedSimpArgs false
set_option linter.unusedVariables false
def lowF (v f : Int) (c : Bool) : Int := if c then v else f
set_option maxRecDepth 100000 in
set_option maxHeartbeats 64000000 in
theorem cutTo (k : Nat) (p0 p1 se st te ts : Int) (hs : List GHead) (ls : List GLast) (es : List GEntry) (fe fs : Int) (cs : List GChunk) (n : Nat) (hn : n ≤ es.length)
    (b1 : hs.length ≤ 1048576) (b2 : ls.length ≤ 1048576) (b3 : es.length ≤ 1048576) (b4 : cs.length ≤ 1048576) (x y : Int) (hx : lsE te (·.Ver_Epoch) (es.take n) = x) (hy : lsE ts (·.Ver_Seq) (es.take n) = y) (g : Bool) (hg : lessB x y fe fs = g) :
    call code (k + 5) 85 [psV p0 p1 se st te ts hs ls es fe fs cs, .int .i64 n] [] = some (resPS p0 p1 se st te ts hs ls (es.take n) (lowF x fe g) (lowF y fs g) cs) := by
  refine call_run rfl fn85 rfl ?_
  have h8 := fun k => lastVer k p0 p1 se st te ts hs ls (es.take n) fe fs cs (by simp; omega)
  have hc := fun k => clone k p0 p1 se st te ts hs ls es fe fs cs b1 b2 b3 b4
  have hv := fun k => verLess k x y fe fs
  rw [hx, hy] at h8
  rw [hg] at hv
  have l1 := rws_len (enc := GHead.enc) hs
  have l2 := rws_len (enc := GLast.enc) ls
  have l3 := rws_len (enc := GEntry.enc) es
  have l3' := rws_len (enc := GEntry.enc) (es.take n)
  have l4 := rws_len (enc := GChunk.enc) cs
  have k1 := tkE (enc := GHead.enc) (l := hs) rfl
  have k2 := tkE (enc := GLast.enc) (l := ls) rfl
  have k3 := tkE (enc := GEntry.enc) (l := es) rfl
  have k4 := tkE (enc := GChunk.enc) (l := cs) rfl
  have hsn := rws_take' GEntry.enc es n
  have hll : (es.take n).length = n := by simp; omega
  rw [hll] at l3'
  have k3' : (rws GEntry.enc (es.take n)).take n = rws GEntry.enc (es.take n) := List.take_of_length_le (by omega)
  unfold psV resPS at *
  rw [hll]
  generalize rws GEntry.enc (es.take n) = R3' at *
  generalize rws GHead.enc hs = R1 at *
  generalize rws GLast.enc ls = R2 at *
  generalize rws GEntry.enc es = R3 at *
  generalize rws GChunk.enc cs = R4 at *
  cases g
  · simp [F85, rcall147, rcall110, rcall38, h8, hc, hv, storeM, cutM, cutmH, l1, l2, l3, l3', l4, k1, k2, k3, k3', k4, hsn, hn, lowF]
  · simp [F85, rcall147, rcall110, rcall38, h8, hc, hv, storeM, cutM, cutmH, l1, l2, l3, l3', l4, k1, k2, k3, k3', k4, hsn, hn, lowF]
end Go.Ae.GA.B
namespace Go.Ae.GA.B
set_option linter.unusedSimpArgs false
set_option linter.unusedVariables false
theorem wsum_mem {α : Type} {w : α → Nat} {l : List α} {x : α} (h : x ∈ l) : w x ≤ wsum w l := by
  induction l with
  | nil => cases h
  | cons a r ih =>
    unfold wsum at *
    rw [List.map_cons, List.sum_cons]
    rcases List.mem_cons.1 h with rfl | h
    · omega
    · have := ih h; omega
theorem h_names {hs : List GHead} {n : Nat} (h : wsum GHead.wt hs ≤ n) : ∀ c ∈ hs, c.Name.size ≤ n := fun c hc => Nat.le_trans (wsum_mem (w := GHead.wt) hc) h
theorem e_names {hs : List GEntry} {n : Nat} (h : wsum GEntry.wt hs ≤ n) : ∀ c ∈ hs, c.Name.size ≤ n := fun c hc => Nat.le_trans (wsum_mem (w := GEntry.wt) hc) h
theorem c_names {hs : List GChunk} {n : Nat} (h : wsum GChunk.wt hs ≤ n) : ∀ c ∈ hs, c.Name.size ≤ n := fun c hc => by
  have h1 := wsum_mem (w := GChunk.wt) hc
  have h2 : c.Name.size ≤ GChunk.wt c := by unfold GChunk.wt; omega
  omega
/-- Lengths that the sizes allow. -/
structure Few (hs : List GHead) (ls : List GLast) (es : List GEntry) (cs : List GChunk) : Prop where
  h : hs.length ≤ 1048576
  l : ls.length ≤ 1048576
  e : es.length ≤ 1048576
  c : cs.length ≤ 1048576
  hn : ∀ c ∈ hs, c.Name.size ≤ 1048576
  en : ∀ c ∈ es, c.Name.size ≤ 1048576
  cn : ∀ c ∈ cs, c.Name.size ≤ 1048576
theorem few_of {hs : List GHead} {ls : List GLast} {es : List GEntry} {cs : List GChunk} (h : (hs.length + wsum GHead.wt hs) + ls.length + (es.length + wsum GEntry.wt es) + (cs.length + wsum GChunk.wt cs) ≤ 1048576) : Few hs ls es cs :=
  ⟨by omega, by omega, by omega, by omega, h_names (by omega), e_names (by omega), c_names (by omega)⟩
theorem few_nil : Few [] [] [] [] := ⟨by simp, by simp, by simp, by simp, by simp, by simp, by simp⟩
abbrev resPC (p0 p1 se st te ts : Int) (hs : List GHead) (ls : List GLast) (es : List GEntry) (fe fs : Int) (cs : List GChunk) (c : Int) : Res :=
  ⟨.tup [.agg [.int .i64 p0, .int .i64 p1, .int .i64 se, .int .i64 st, .int .i64 te, .int .i64 ts, .sl 0 0 0 [] 0 hs.length, .sl 0 1 0 [] 0 ls.length, .sl 0 2 0 [] 0 es.length, .int .i64 fe, .int .i64 fs, .sl 0 3 0 [] 0 cs.length], .int .i64 c],
   [⟨0, 5, false, true, rws GHead.enc hs⟩, ⟨0, 4, false, true, rws GLast.enc ls⟩, ⟨0, 10, false, true, rws GEntry.enc es⟩, ⟨0, 6, false, true, rws GChunk.enc cs⟩], []⟩
def zeroPC (c : Int) : Res := resPC 0 0 0 0 0 0 [] [] [] 0 0 [] c
theorem upC_take {te ts : Int} {es : List GEntry} {a b : Int} (h : 0 ≤ upC te ts es a b) : ∃ n : Nat, n ≤ es.length ∧ upC te ts es a b = n ∧ lsE te (·.Ver_Epoch) (es.take n) = a ∧ lsE ts (·.Ver_Seq) (es.take n) = b := by
  unfold upC at *
  split at h
  · rename_i hc
    rw [if_pos hc]
    simp only [Bool.and_eq_true, beq_iff_eq] at hc
    exact ⟨0, Nat.zero_le _, rfl, by rw [List.take_zero, lsE_nil, hc.1], by rw [List.take_zero, lsE_nil, hc.2]⟩
  · rename_i hc
    rw [if_neg hc]
    split at h
    · omega
    · rename_i h2
      rw [if_neg h2]
      unfold idxP at *
      cases hf : es.findIdx? (isV a b) with
      | none => rw [hf] at h2; simp at h2
      | some i =>
        rw [List.findIdx?_eq_some_iff_getElem] at hf
        obtain ⟨hi, hv, _⟩ := hf
        have hv : isV a b es[i] = true := by simpa using hv
        unfold isV at hv
        simp only [Bool.and_eq_true, beq_iff_eq] at hv
        have hl : (es.take (i + 1)).length = i + 1 := by simp; omega
        have hg : ∀ h, (es.take (i + 1))[(es.take (i + 1)).length - 1]'h = es[i] := fun h => by
          rw [List.getElem_take]; simp only [hl]; rfl
        refine ⟨i + 1, hi, by simp, ?_, ?_⟩
        · rw [lsE_at (by omega), hg, hv.1]
        · rw [lsE_at (by omega), hg, hv.2]
theorem upC_le {te ts : Int} {es : List GEntry} {a b : Int} (h : es.length ≤ 1048576) : -1 ≤ upC te ts es a b ∧ upC te ts es a b ≤ 1048576 := by
  by_cases g : 0 ≤ upC te ts es a b
  · obtain ⟨n, h1, h2, _⟩ := upC_take g
    omega
  · refine ⟨?_, by omega⟩
    unfold upC at *
    split at g
    · omega
    · rename_i hc
      rw [if_neg hc]
      split <;> omega
set_option maxRecDepth 100000 in
set_option maxHeartbeats 64000000 in
theorem versionCode (k : Nat) (p0 p1 se st te ts : Int) (hs : List GHead) (ls : List GLast) (es : List GEntry) (fe fs : Int) (cs : List GChunk) (a b : Int) (b3 : es.length ≤ 1048576) (g : Bool) (u : Int) (hu : upC te ts es a b = u)
    (o1 : ∀ k, call code (k + 7) 66 [psV p0 p1 se st te ts hs ls es fe fs cs] [] = some ⟨.bool g, [], []⟩) :
    call code (k + 8) 84 [psV p0 p1 se st te ts hs ls es fe fs cs, .agg [.int .i64 a, .int .i64 b]] [] = some ⟨.tup [.int .i64 (if g then (if u < 0 then 0 else u) else 0), .int .i64 (if g then (if u < 0 then 3 else 0) else 1)], [], []⟩ := by
  refine call_run rfl fn84 rfl ?_
  have hc := fun k => countTo k p0 p1 se st te ts hs ls es fe fs cs a b b3
  rw [hu] at hc
  unfold psV at *
  generalize rws GHead.enc hs = R1 at *
  generalize rws GLast.enc ls = R2 at *
  generalize rws GEntry.enc es = R3 at *
  generalize rws GChunk.enc cs = R4 at *
  cases g
  · simp [F84, rcall66, o1]
  by_cases h : u < 0
  · simp [F84, rcall66, rcall156, o1, hc, h]
  · simp [F84, rcall66, rcall156, o1, hc, h]
set_option maxRecDepth 100000 in
set_option maxHeartbeats 64000000 in
theorem cutLogI (k : Nat) (p0 p1 se st te ts : Int) (hs : List GHead) (ls : List GLast) (es : List GEntry) (fe fs : Int) (cs : List GChunk) (a b : Int) (g : Bool) (u : Int) (c : Int) (t : Int) (r : Res)
    (o1 : ∀ k, call code (k + 8) 84 [psV p0 p1 se st te ts hs ls es fe fs cs, .agg [.int .i64 a, .int .i64 b]] [] = some ⟨.tup [.int .i64 t, .int .i64 c], [], []⟩)
    (hr : c = 0 → ∃ q0 q1 q2 q3 q4 q5 rh rl re q9 q10 rc, r = resPC q0 q1 q2 q3 q4 q5 rh rl re q9 q10 rc 0 ∧ ∀ k, call code (k + 5) 85 [psV p0 p1 se st te ts hs ls es fe fs cs, .int .i64 t] [] = some (resPS q0 q1 q2 q3 q4 q5 rh rl re q9 q10 rc)) :
    call code (k + 9) 21 [psV p0 p1 se st te ts hs ls es fe fs cs, .agg [.int .i64 a, .int .i64 b]] [] = some (if c == 0 then r else zeroPC c) := by
  refine call_run rfl fn21 rfl ?_
  have n1 : rws GHead.enc [] = [] := rfl
  have n2 : rws GLast.enc [] = [] := rfl
  have n3 : rws GEntry.enc [] = [] := rfl
  have n4 : rws GChunk.enc [] = [] := rfl
  by_cases h : c = 0
  · subst h
    obtain ⟨q0, q1, q2, q3, q4, q5, rh, rl, re, q9, q10, rc, rfl, o2⟩ := hr rfl
    have l1 := rws_len (enc := GHead.enc) rh
    have l2 := rws_len (enc := GLast.enc) rl
    have l3 := rws_len (enc := GEntry.enc) re
    have l4 := rws_len (enc := GChunk.enc) rc
    have k1 := tkE (enc := GHead.enc) (l := rh) rfl
    have k2 := tkE (enc := GLast.enc) (l := rl) rfl
    have k3 := tkE (enc := GEntry.enc) (l := re) rfl
    have k4 := tkE (enc := GChunk.enc) (l := rc) rfl
    unfold psV zeroPC resPC resPS at *
    generalize rws GHead.enc rh = R1 at *
    generalize rws GLast.enc rl = R2 at *
    generalize rws GEntry.enc re = R3 at *
    generalize rws GChunk.enc rc = R4 at *
    simp [F21, rcall84, rcall85, o1, o2, storeM, l1, l2, l3, l4, k1, k2, k3, k4]
  · unfold psV zeroPC resPC at *
    have hb : (c == 0) = false := by simpa using h
    have hb2 : (c != 0) = true := by simpa using h
    rw [n1, n2, n3, n4]
    simp [F21, rcall84, o1, storeM, h, hb, hb2]
set_option maxRecDepth 100000 in
set_option maxHeartbeats 64000000 in
theorem cutLogS0 (k : Nat) (p0 p1 se st te ts : Int) (hs : List GHead) (ls : List GLast) (es : List GEntry) (fe fs : Int) (cs : List GChunk) (a b : Int) (b3 : es.length ≤ 1048576) (g : Bool) (u : Int) (hu : upC te ts es a b = u) (hn : g = true → u < 0)
    (o1 : ∀ k, call code (k + 7) 29 [psV p0 p1 se st te ts hs ls es fe fs cs] [] = some ⟨.bool g, [], []⟩) :
    call code (k + 9) 19 [psV p0 p1 se st te ts hs ls es fe fs cs, .agg [.int .i64 a, .int .i64 b]] [] = some (zeroPC (if g then 3 else 1)) := by
  refine call_run rfl fn19 rfl ?_
  have n1 : rws GHead.enc [] = [] := rfl
  have n2 : rws GLast.enc [] = [] := rfl
  have n3 : rws GEntry.enc [] = [] := rfl
  have n4 : rws GChunk.enc [] = [] := rfl
  have hc := fun k => l17Upto k p0 p1 se st te ts hs ls es fe fs cs a b b3
  rw [hu] at hc
  unfold psV zeroPC resPC at *
  rw [n1, n2, n3, n4]
  generalize rws GHead.enc hs = R1 at *
  generalize rws GLast.enc ls = R2 at *
  generalize rws GEntry.enc es = R3 at *
  generalize rws GChunk.enc cs = R4 at *
  cases g
  · simp [F19, rcall29, o1, storeM]
  · have h := hn rfl
    simp [F19, rcall29, rcall82, o1, hc, h, storeM]
set_option maxRecDepth 100000 in
set_option maxHeartbeats 64000000 in
theorem cutLogS (k : Nat) (p0 p1 se st te ts : Int) (hs : List GHead) (ls : List GLast) (es : List GEntry) (fe fs : Int) (cs : List GChunk) (a b : Int) (n : Nat) (hn : n ≤ es.length)
    (b1 : hs.length ≤ 1048576) (b2 : ls.length ≤ 1048576) (b3 : es.length ≤ 1048576) (b4 : cs.length ≤ 1048576) (hu : upC te ts es a b = n) (g : Bool) (hg : lessB a b fe fs = g)
    (o1 : ∀ k, call code (k + 7) 29 [psV p0 p1 se st te ts hs ls es fe fs cs] [] = some ⟨.bool true, [], []⟩) :
    call code (k + 9) 19 [psV p0 p1 se st te ts hs ls es fe fs cs, .agg [.int .i64 a, .int .i64 b]] [] = some (resPC p0 p1 se st te ts hs ls (es.take n) (lowF a fe g) (lowF b fs g) cs 0) := by
  refine call_run rfl fn19 rfl ?_
  have hq := fun k => l17Upto k p0 p1 se st te ts hs ls es fe fs cs a b b3
  rw [hu] at hq
  have hc := fun k => l17Copy k p0 p1 se st te ts hs ls es fe fs cs b1 b2 b3 b4
  have hv := fun k => verLessS k a b fe fs
  rw [hg] at hv
  have l1 := rws_len (enc := GHead.enc) hs
  have l2 := rws_len (enc := GLast.enc) ls
  have l3 := rws_len (enc := GEntry.enc) es
  have l3' := rws_len (enc := GEntry.enc) (es.take n)
  have l4 := rws_len (enc := GChunk.enc) cs
  have k1 := tkE (enc := GHead.enc) (l := hs) rfl
  have k2 := tkE (enc := GLast.enc) (l := ls) rfl
  have k3 := tkE (enc := GEntry.enc) (l := es) rfl
  have k4 := tkE (enc := GChunk.enc) (l := cs) rfl
  have hsn := rws_take' GEntry.enc es n
  have hll : (es.take n).length = n := by simp; omega
  rw [hll] at l3'
  have k3' : (rws GEntry.enc (es.take n)).take n = rws GEntry.enc (es.take n) := List.take_of_length_le (by omega)
  unfold psV resPS resPC at *
  rw [hll]
  generalize rws GEntry.enc (es.take n) = R3' at *
  generalize rws GHead.enc hs = R1 at *
  generalize rws GLast.enc ls = R2 at *
  generalize rws GEntry.enc es = R3 at *
  generalize rws GChunk.enc cs = R4 at *
  have hz : ((n : Int) < 0) = False := eq_false (by omega)
  cases g
  · simp [F19, rcall29, rcall82, rcall59, rcall83, o1, hq, hc, hv, storeM, cutM, cutmH, l1, l2, l3, l3', l4, k1, k2, k3, k3', k4, hsn, hn, hz, lowF]
  · simp [F19, rcall29, rcall82, rcall59, rcall83, o1, hq, hc, hv, storeM, cutM, cutmH, l1, l2, l3, l3', l4, k1, k2, k3, k3', k4, hsn, hn, hz, lowF]
theorem cutLogs (p0 p1 se st te ts : Int) (hs : List GHead) (ls : List GLast) (es : List GEntry) (fe fs : Int) (cs : List GChunk) (a b : Int) (d : Few hs ls es cs) :
    ∃ r0 r1 r2 r3 r4 r5 rh rl re r9 r10 rc c, (∀ k, call code (k + 9) 21 [psV p0 p1 se st te ts hs ls es fe fs cs, .agg [.int .i64 a, .int .i64 b]] [] = some (resPC r0 r1 r2 r3 r4 r5 rh rl re r9 r10 rc c)) ∧
      (∀ k, call code (k + 9) 19 [psV p0 p1 se st te ts hs ls es fe fs cs, .agg [.int .i64 a, .int .i64 b]] [] = some (resPC r0 r1 r2 r3 r4 r5 rh rl re r9 r10 rc c)) ∧ Few rh rl re rc := by
  have i1 := fun k => stateOk k p0 p1 se st te ts hs ls es fe fs cs d.h d.l d.e d.c d.hn d.en d.cn
  have s1 := fun k => stateOkS k p0 p1 se st te ts hs ls es fe fs cs d.h d.l d.e d.c d.hn d.en d.cn
  generalize stateB p0 p1 se st te ts hs ls es fe fs cs = g at *
  have V := fun k => versionCode k p0 p1 se st te ts hs ls es fe fs cs a b d.e g _ rfl i1
  by_cases hz : 0 ≤ upC te ts es a b
  rotate_left
  · have hl : upC te ts es a b < 0 := by omega
    have S := fun k => cutLogS0 k p0 p1 se st te ts hs ls es fe fs cs a b d.e g _ rfl (fun _ => hl) s1
    have I := fun k => cutLogI k p0 p1 se st te ts hs ls es fe fs cs a b g 0 _ _ (zeroPC 0) V (fun h => by cases g <;> simp [hl] at h)
    cases g
    · simp at I S
      exact ⟨_, _, _, _, _, _, _, _, _, _, _, _, _, I, S, few_nil⟩
    · simp [hl] at I S
      exact ⟨_, _, _, _, _, _, _, _, _, _, _, _, _, I, S, few_nil⟩
  obtain ⟨n, hn, hu, e1, e2⟩ := upC_take hz
  cases g
  · have S := fun k => cutLogS0 k p0 p1 se st te ts hs ls es fe fs cs a b d.e false _ rfl (fun h => by cases h) s1
    have I := fun k => cutLogI k p0 p1 se st te ts hs ls es fe fs cs a b false 0 _ _ (zeroPC 0) V (fun h => by simp at h)
    simp at I S
    exact ⟨_, _, _, _, _, _, _, _, _, _, _, _, _, I, S, few_nil⟩
  · have S := fun k => cutLogS k p0 p1 se st te ts hs ls es fe fs cs a b n hn d.h d.l d.e d.c hu _ rfl s1
    rw [hu] at V
    have hnn : ¬ ((n : Int) < 0) := by omega
    simp only [if_true, if_neg hnn] at V
    have I := fun k => cutLogI k p0 p1 se st te ts hs ls es fe fs cs a b true 0 _ _ _ V (fun _ => ⟨_, _, _, _, _, _, _, _, _, _, _, _, rfl, fun k => cutTo k p0 p1 se st te ts hs ls es fe fs cs n hn d.h d.l d.e d.c a b e1 e2 _ rfl⟩)
    simp only [BEq.rfl, if_true] at I
    refine ⟨_, _, _, _, _, _, _, _, _, _, _, _, _, I, S, ?_⟩
    exact ⟨d.h, d.l, by have := d.e; simp; omega, d.c, d.hn, fun c hc => d.en c (List.mem_of_mem_take hc), d.cn⟩
end Go.Ae.GA.B
namespace Go.Ae.GA.B
set_option linter.unusedSimpArgs false
set_option linter.unusedVariables false
set_option maxRecDepth 100000 in
set_option maxHeartbeats 200000000 in
theorem law4 (n : Nat) (a0 a1 a2 a3 a4 a5 : Int) (ah : List GHead) (al : List GLast) (ae : List GEntry) (a9 a10 : Int) (ac : List GChunk) (va vb : Int) (x1 : ah.length ≤ 140737488351232) (x2 : ∀ x ∈ ah, x.ok) (x3 : al.length ≤ 140737488351232) (x5 : ae.length ≤ 140737488351232) (x6 : ∀ x ∈ ae, x.ok) (x7 : ac.length ≤ 140737488351232) (x8 : ∀ x ∈ ac, x.ok) :
    call code (n + 12) 4 [psV a0 a1 a2 a3 a4 a5 ah al ae a9 a10 ac, .agg [.int .i64 va, .int .i64 vb]] [] = some ⟨.bool true, [], []⟩ := by
  refine call_run rfl fn4 rfl ?_
  have z1 := fun k => szPgState k 1048576 a0 a1 a2 a3 a4 a5 ah al ae a9 a10 ac (by omega) x1 x2 x3 x5 x6 x7 x8
  cases g1 : decide (szV 1048576 ((ah.length + wsum GHead.wt ah) + al.length + (ae.length + wsum GEntry.wt ae) + (ac.length + wsum GChunk.wt ac)) < 0)
  rotate_left
  · obtain ⟨_, e1⟩ := szV_neg g1 (by omega)
    rw [e1] at z1
    unfold psV
    simp [F4, rcall12, z1]
  obtain ⟨a1', e1⟩ := szV_pos g1 (by omega)
  rw [e1] at z1 g1
  have fa : Few ah al ae ac := few_of (by omega)
  generalize ((ah.length + wsum GHead.wt ah) + al.length + (ae.length + wsum GEntry.wt ae) + (ac.length + wsum GChunk.wt ac)) = wa at *
  obtain ⟨r0, r1, r2, r3, r4, r5, rh, rl, re, r9, r10, rc, c, hi, hs, fr⟩ := cutLogs a0 a1 a2 a3 a4 a5 ah al ae a9 a10 ac va vb fa
  have bA1 := fa.h
  have bA2 := fa.l
  have bA3 := fa.e
  have bA4 := fa.c
  have tA := fun k => toPgState k a0 a1 a2 a3 a4 a5 ah al ae a9 a10 ac (by omega) (by omega) (by omega) (by omega)
  have eA := fun k => eqPgState k a0 a1 a2 a3 a4 a5 ah al ae a9 a10 ac (by omega) (by omega) (by omega) (by omega)
  have mA := fun k lv E S1 S2 S3 S4 hlv ga gb gc gd n1 n2 n3 n4 n5 n6 => markPgState k lv E a0 a1 a2 a3 a4 a5 ah al ae a9 a10 ac S1 S2 S3 S4 1 (by omega) hlv (by omega) (by omega) (by omega) (by omega) ga gb gc gd n1 n2 n3 n4 n5 n6
  have kAh := tkE (enc := GHead.enc) (l := ah) rfl
  have lAh := rws_len (enc := GHead.enc) ah
  have pAh := fun (c : Int) (l : Heap) (S : Nat) (hh : l.set S (some ⟨0, 5, false, true, rws GHead.enc ah⟩) = l) => hpm_all (enc := GHead.enc) (sz := 5) (mk := GHead.mkAt) (l := l) (S := S) (c := c) (ws := ah) hh
  have kAl := tkE (enc := GLast.enc) (l := al) rfl
  have lAl := rws_len (enc := GLast.enc) al
  have pAl := fun (c : Int) (l : Heap) (S : Nat) (hh : l.set S (some ⟨0, 4, false, true, rws GLast.enc al⟩) = l) => hpm_all (enc := GLast.enc) (sz := 4) (mk := GLast.mkAt) (l := l) (S := S) (c := c) (ws := al) hh
  have kAe := tkE (enc := GEntry.enc) (l := ae) rfl
  have lAe := rws_len (enc := GEntry.enc) ae
  have pAe := fun (c : Int) (l : Heap) (S : Nat) (hh : l.set S (some ⟨0, 10, false, true, rws GEntry.enc ae⟩) = l) => hpm_all (enc := GEntry.enc) (sz := 10) (mk := GEntry.mkAt) (l := l) (S := S) (c := c) (ws := ae) hh
  have kAc := tkE (enc := GChunk.enc) (l := ac) rfl
  have lAc := rws_len (enc := GChunk.enc) ac
  have pAc := fun (c : Int) (l : Heap) (S : Nat) (hh : l.set S (some ⟨0, 6, false, true, rws GChunk.enc ac⟩) = l) => hpm_all (enc := GChunk.enc) (sz := 6) (mk := GChunk.mkAt) (l := l) (S := S) (c := c) (ws := ac) hh
  have bR1 := fr.h
  have bR2 := fr.l
  have bR3 := fr.e
  have bR4 := fr.c
  have eR := fun k => eqPgState k r0 r1 r2 r3 r4 r5 rh rl re r9 r10 rc (by omega) (by omega) (by omega) (by omega)
  have mR := fun k lv E S1 S2 S3 S4 hlv ga gb gc gd n1 n2 n3 n4 n5 n6 => markPgState k lv E r0 r1 r2 r3 r4 r5 rh rl re r9 r10 rc S1 S2 S3 S4 1 (by omega) hlv (by omega) (by omega) (by omega) (by omega) ga gb gc gd n1 n2 n3 n4 n5 n6
  have kRh := tkE (enc := GHead.enc) (l := rh) rfl
  have lRh := rws_len (enc := GHead.enc) rh
  have pRh := fun (c : Int) (l : Heap) (S : Nat) (hh : l.set S (some ⟨0, 5, false, true, rws GHead.enc rh⟩) = l) => hpm_all (enc := GHead.enc) (sz := 5) (mk := GHead.mkAt) (l := l) (S := S) (c := c) (ws := rh) hh
  have kRl := tkE (enc := GLast.enc) (l := rl) rfl
  have lRl := rws_len (enc := GLast.enc) rl
  have pRl := fun (c : Int) (l : Heap) (S : Nat) (hh : l.set S (some ⟨0, 4, false, true, rws GLast.enc rl⟩) = l) => hpm_all (enc := GLast.enc) (sz := 4) (mk := GLast.mkAt) (l := l) (S := S) (c := c) (ws := rl) hh
  have kRe := tkE (enc := GEntry.enc) (l := re) rfl
  have lRe := rws_len (enc := GEntry.enc) re
  have pRe := fun (c : Int) (l : Heap) (S : Nat) (hh : l.set S (some ⟨0, 10, false, true, rws GEntry.enc re⟩) = l) => hpm_all (enc := GEntry.enc) (sz := 10) (mk := GEntry.mkAt) (l := l) (S := S) (c := c) (ws := re) hh
  have kRc := tkE (enc := GChunk.enc) (l := rc) rfl
  have lRc := rws_len (enc := GChunk.enc) rc
  have pRc := fun (c : Int) (l : Heap) (S : Nat) (hh : l.set S (some ⟨0, 6, false, true, rws GChunk.enc rc⟩) = l) => hpm_all (enc := GChunk.enc) (sz := 6) (mk := GChunk.mkAt) (l := l) (S := S) (c := c) (ws := rc) hh
  have hh := fun k => heldPgState k r0 r1 r2 r3 r4 r5 rh.length rl.length re.length r9 r10 rc.length 1 (by omega) (by omega) (by omega) (by omega) (by omega)
  have qh := fun c n => tkE (enc := GHead.enc) (marks_len GHead.mkAt c n)
  have ql := fun c n => tkE (enc := GLast.enc) (marks_len GLast.mkAt c n)
  have qe := fun c n => tkE (enc := GEntry.enc) (marks_len GEntry.mkAt c n)
  have qc := fun c n => tkE (enc := GChunk.enc) (marks_len GChunk.mkAt c n)
  have d1 : decide (1 + 5 * (ah.length : Int) + 4 * al.length + 10 * ae.length + 6 * ac.length < 0) = false := by simp <;> omega
  have d3 : decide (1 + 5 * (rh.length : Int) + 4 * rl.length + 10 * re.length + 6 * rc.length < 0) = false := by simp <;> omega
  have te := fun k => toVer k va vb
  unfold resPC psV at *
  simp (maxSteps := 40000000) [F4, rcall12, z1, g1, rcall14, rcall20, te, rcall19, hs, rcall21, hi, rcall16, rcall17, rcall18, hh, storeM, d1, d3, tA, eA, mA, kAh, lAh, pAh, kAl, lAl, pAl, kAe, lAe, pAe, kAc, lAc, pAc, eR, mR, kRh, lRh, pRh, kRl, lRl, pRl, kRe, lRe, pRe, kRc, lRc, pRc, qh, ql, qe, qc]
end Go.Ae.GA.B
namespace Go.Ae.GA.B
set_option linter.unusedSimpArgs false
set_option linter.unusedVariables false
theorem lawCutLog (avs : List AV) (h : PFitsAll [(true, [.int .i64, .int .i64, .int .i64, .int .i64, .int .i64, .int .i64, .sl 48 [.str, .int .i64, .int .i64, .int .i64, .int .i64], .sl 32 [.int .i64, .int .i64, .int .i64, .int .i64], .sl 88 [.int .i64, .int .i64, .int .i64, .int .i64, .str, .bool, .int .i64, .int .i64, .int .i64, .int .i64], .int .i64, .int .i64, .sl 64 [.str, .int .i64, .int .i64, .int .i64, .int .i64, .str]]), (true, [.int .i64, .int .i64])] avs) : ∃ n bs e, call code n 4 avs [] = some ⟨.bool true, bs, e⟩ := by
  obtain ⟨v0, r, rfl, h0, h⟩ := h.cons_inv
  obtain ⟨v1, r, rfl, h1, h⟩ := h.cons_inv
  obtain rfl := h.nil_inv
  obtain ⟨cs, rfl, f0⟩ := h0.agg_inv
  obtain ⟨ds, rfl, f1⟩ := h1.agg_inv
  obtain ⟨p0, p1, se, st, te, ts, hs, ls, es, fe, fs, ks, e1, x1, x2, x3, x5, x6, x7, x8⟩ := ps_inv f0
  obtain ⟨_, _, rfl, c0, f1⟩ := f1.cons_inv
  obtain ⟨_, _, rfl, c1, f1⟩ := f1.cons_inv
  obtain rfl := f1.nil_inv
  obtain ⟨a, rfl, _⟩ := c0.i64_inv
  obtain ⟨b, rfl, _⟩ := c1.i64_inv
  rw [e1]
  exact ⟨_, _, _, law4 0 p0 p1 se st te ts hs ls es fe fs ks a b x1 x2 x3 x5 x6 x7 x8⟩
end Go.Ae.GA.B
