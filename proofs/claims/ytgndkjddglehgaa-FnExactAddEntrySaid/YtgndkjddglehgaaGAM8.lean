/- The heads behind so many entries. -/
import Derived.Test.YtgndkjddglehgaaGAM4
import Derived.Test.YtgndkjddglehgaaGAM2
import Derived.Test.YtgndkjddglehgaaGAM6
import Derived.Test.YtgndkjddglehgaaGAM7
namespace Go.Ae.GA
set_option linter.unusedSimpArgs false
set_option linter.unusedVariables false
set_option maxRecDepth 100000 in
set_option maxHeartbeats 64000000 in
theorem l17HeadsAt (k : Nat) (p0 p1 se st te ts : Int) (hs : List GHead) (ls : List GLast) (es : List GEntry) (fe fs : Int) (cs : List GChunk) (n : Nat) (hn : hs.length ≤ 1000000) (hn2 : es.length ≤ 1000000) (hle : n ≤ es.length) :
    call code (k + 2) 47 [psV p0 p1 se st te ts hs ls es fe fs cs, .int .i64 n] [] = some ⟨.sl 0 0 0 [] 0 (hdI hs es n).length, [⟨0, 5, false, true, rws GHead.enc (hdI hs es n)⟩], []⟩ := by
  refine call_run rfl fn47 rfl ?_
  have hrl := rws_len (enc := GEntry.enc) es
  have hgx : ∀ i (hi : i < es.length) (hh : i < (rws GEntry.enc es).length), (rws GEntry.enc es)[i]'hh = GEntry.enc es[i] := fun i hi hh => rws_get ..
  have hpl : ∀ m, (hdI hs es m).length ≤ hs.length + m := hdI_le hs es
  have h00 : hdI hs es 0 = hs := rfl
  have hr5 := rws5 hs
  have rh := rws_len (enc := GHead.enc) hs
  have kh := tkE (enc := GHead.enc) (l := hs) rfl
  unfold psV at *
  generalize rws GEntry.enc es = ES at *
  generalize rws GLast.enc ls = LS at *
  generalize rws GChunk.enc cs = CS at *
  simp [F47, evalW, source, rh, kh]
  refine ⟨hr5, ⟨by omega, by omega⟩, ?_⟩
  refine RunC_loop (fun i : Nat => ⟨tm 24 [(1, .int .i64 n), (2, .ptr 0 0 0 [] 0 0), (5, .sl 0 65536 0 [] 0 (hdI hs es i).length), (6, .int .i64 i)], [(0, some ⟨0, 12, true, false, [[.int .i64 p0, .int .i64 p1, .int .i64 se, .int .i64 st, .int .i64 te, .int .i64 ts, .rd true (rws GHead.enc hs), .rd true LS, .rd true ES, .int .i64 fe, .int .i64 fs, .rd true CS]]⟩), (65536, some ⟨0, 5, false, true, rws GHead.enc (hdI hs es i)⟩)], []⟩)
    (fun i => i ≤ n) (fun i => n - i) 0 (Nat.zero_le _) (by simp; omega) (by simp [tm, h00]) fun i hi _ => ?_
  by_cases hlt : i < n
  · have hlt' : i < es.length := by omega
    have hs' := idx_succ' hlt (by omega)
    have hg := hgx i hlt'
    have hl := hpl i
    have pu := fun k => l17Put k (hdI hs es i) es[i] (by omega)
    rw [← hdI_succ hlt'] at pu
    have k0 := tkE (enc := GHead.enc) (l := hdI hs es i) rfl
    have r0 := rws_len (enc := GHead.enc) (hdI hs es i)
    simp only [GEntry.enc] at hg pu
    generalize hX : rws GHead.enc (hdI hs es (i + 1)) = X at *
    generalize hY : (hdI hs es (i + 1)).length = Y at *
    simp [tm, hlt, hlt', hrl, hg, storeM, k0, r0, rcall46, pu, hs']
    exact ⟨i + 1, by omega, by omega, ⟨hY.symm, by omega⟩, hX.symm⟩
  · have : i = n := by omega
    subst this
    have k0 := tkE (enc := GHead.enc) (l := hdI hs es i) rfl
    have r0 := rws_len (enc := GHead.enc) (hdI hs es i)
    simp [tm, k0, r0]
end Go.Ae.GA
namespace Go.Ae.GA
set_option linter.unusedSimpArgs false
set_option linter.unusedVariables false
theorem hdI_snoc (hs : List GHead) (es : List GEntry) (e : GEntry) {i : Nat} (h : i ≤ es.length) : hdI hs (es ++ [e]) i = hdI hs es i := by
  unfold hdI; rw [List.take_append_of_le_length h]
theorem prE_snoc (te : Int) (f : GEntry → Int) (es : List GEntry) (e : GEntry) {i : Nat} (h : i ≤ es.length) : prE te f (es ++ [e]) i = prE te f es i := by
  cases i with
  | zero => rfl
  | succ j => simp only [prE]; rw [List.getElem?_append_left (by omega)]
theorem okE_snoc {te ts : Int} {hs : List GHead} {es : List GEntry} {e : GEntry} {i : Nat} (h : i < es.length) : okE te ts hs (es ++ [e]) i = okE te ts hs es i := by
  unfold okE
  rw [List.getElem?_append_left h, hdI_snoc hs es e (by omega), prE_snoc te _ es e (by omega), prE_snoc ts _ es e (by omega)]
theorem lgB_snoc {te ts : Int} {hs : List GHead} {es : List GEntry} {e : GEntry} (h : lgB te ts hs es = true) (he : entB (toEnt e) = true) (h1 : e.Prior_Epoch = prE te (·.Ver_Epoch) es es.length) (h2 : e.Prior_Seq = prE ts (·.Ver_Seq) es es.length) :
    lgB te ts hs (es ++ [e]) = (decide (es.length < 24) && decide ((putH (hdI hs es es.length) e).length ≤ 16)) := by
  unfold lgB at h ⊢
  simp only [Bool.and_eq_true] at h
  have ha := range_all' h.1
  have hl : (es ++ [e]).length = es.length + 1 := by simp
  have hlast : okE te ts hs (es ++ [e]) es.length = decide ((putH (hdI hs es es.length) e).length ≤ 16) := by
    have hlt : es.length < (es ++ [e]).length := by omega
    have hg : (es ++ [e])[es.length] = e := by simp
    rw [okE_at hlt, hdI_succ hlt, hg, he, prE_snoc te _ es e (Nat.le_refl _), prE_snoc ts _ es e (Nat.le_refl _), hdI_snoc hs es e (Nat.le_refl _)]
    simp [h1, h2]
  rw [hl, List.range_succ, List.all_append]
  have hall : (List.range es.length).all (okE te ts hs (es ++ [e])) = true := by
    rw [List.all_eq_true]
    intro i hi
    have hi' := List.mem_range.1 hi
    rw [okE_snoc hi']
    exact ha i hi'
  rw [hall, Bool.true_and, List.all_cons, List.all_nil, Bool.and_true, hlast, Bool.and_comm]
  congr 1
  exact decide_eq_decide.2 (by omega)
where range_all' {n : Nat} {p : Nat → Bool} (h : (List.range n).all p = true) : ∀ i, i < n → p i = true := fun i hi => List.all_eq_true.1 h i (List.mem_range.2 hi)
end Go.Ae.GA
namespace Go.Ae.GA
set_option linter.unusedSimpArgs false
set_option linter.unusedVariables false
abbrev resPC (p0 p1 se st te ts : Int) (hs : List GHead) (ls : List GLast) (es : List GEntry) (fe fs : Int) (cs : List GChunk) (c : Int) : Res :=
  ⟨.tup [.agg [.int .i64 p0, .int .i64 p1, .int .i64 se, .int .i64 st, .int .i64 te, .int .i64 ts, .sl 0 0 0 [] 0 hs.length, .sl 0 1 0 [] 0 ls.length, .sl 0 2 0 [] 0 es.length, .int .i64 fe, .int .i64 fs, .sl 0 3 0 [] 0 cs.length], .int .i64 c],
   [⟨0, 5, false, true, rws GHead.enc hs⟩, ⟨0, 4, false, true, rws GLast.enc ls⟩, ⟨0, 10, false, true, rws GEntry.enc es⟩, ⟨0, 6, false, true, rws GChunk.enc cs⟩], []⟩
def zeroPC (c : Int) : Res := resPC 0 0 0 0 0 0 [] [] [] 0 0 [] c
theorem rws_snoc {α : Type} (enc : α → List AV) (l : List α) (x : α) : rws enc l ++ [enc x] = rws enc (l ++ [x]) := by simp [rws]
set_option maxRecDepth 100000 in
set_option maxHeartbeats 64000000 in
theorem adding (k : Nat) (p0 p1 se st te ts : Int) (hs : List GHead) (ls : List GLast) (es : List GEntry) (fe fs : Int) (cs : List GChunk) (e : GEntry)
    (b1 : hs.length ≤ 1048576) (b2 : ls.length ≤ 1048576) (b3 : es.length ≤ 1000) (b4 : cs.length ≤ 1048576) (g : Bool) (hg : g = (e.Prior_Epoch == lsE te (·.Ver_Epoch) es && e.Prior_Seq == lsE ts (·.Ver_Seq) es)) (gl : Bool)
    (o1 : ∀ k, call code (k + 1) 68 [psV p0 p1 se st te ts hs ls (es ++ [e]) fe fs cs] [] = some ⟨.bool gl, [], []⟩) :
    call code (k + 4) 50 [psV p0 p1 se st te ts hs ls es fe fs cs, .agg (GEntry.enc e)] [] = some (if g then (if gl then resPC p0 p1 se st te ts hs ls (es ++ [e]) fe fs cs 0 else zeroPC 4) else zeroPC 5) := by
  refine call_run rfl fn50 rfl ?_
  have h8 := fun k => lastVer k p0 p1 se st te ts hs ls es fe fs cs (by omega)
  have hc := fun k => clone k p0 p1 se st te ts hs ls es fe fs cs b1 b2 (by omega) b4
  have l1 := rws_len (enc := GHead.enc) hs
  have l2 := rws_len (enc := GLast.enc) ls
  have l3 := rws_len (enc := GEntry.enc) es
  have l3' := rws_len (enc := GEntry.enc) (es ++ [e])
  have l4 := rws_len (enc := GChunk.enc) cs
  have k1 := tkE (enc := GHead.enc) (l := hs) rfl
  have k2 := tkE (enc := GLast.enc) (l := ls) rfl
  have k3 := tkE (enc := GEntry.enc) (l := es) rfl
  have k3' := tkE (enc := GEntry.enc) (l := es ++ [e]) rfl
  have k4 := tkE (enc := GChunk.enc) (l := cs) rfl
  have n1 : rws GHead.enc [] = [] := rfl
  have n2 : rws GLast.enc [] = [] := rfl
  have n3 : rws GEntry.enc [] = [] := rfl
  have n4 : rws GChunk.enc [] = [] := rfl
  have hsn := rws_snoc GEntry.enc es e
  have hll : (es ++ [e]).length = es.length + 1 := by simp
  rw [hll] at l3' k3'
  unfold psV resPS at *
  unfold zeroPC resPC
  rw [n1, n2, n3, n4, hll]
  simp only [GEntry.enc] at hsn ⊢
  generalize rws GEntry.enc (es ++ [e]) = R3' at *
  generalize rws GHead.enc hs = R1 at *
  generalize rws GLast.enc ls = R2 at *
  generalize rws GEntry.enc es = R3 at *
  generalize rws GChunk.enc cs = R4 at *
  generalize lsE te (·.Ver_Epoch) es = x1 at *
  generalize lsE ts (·.Ver_Seq) es = x2 at *
  generalize e.Prior_Epoch = y1 at *
  generalize e.Prior_Seq = y2 at *
  cases c1 : (y1 == x1) <;> cases c2 : (y2 == x2) <;> rw [c1, c2] at hg <;> subst hg
  · simp [F50, rcall70, h8, storeM, c1, c2]
  · simp [F50, rcall70, h8, storeM, c1, c2]
  · simp [F50, rcall70, h8, storeM, c1, c2]
  · cases gl
    · simp [F50, rcall70, rcall72, rcall68, h8, hc, o1, storeM, evalW, source, c1, c2, l1, l2, l3, l4, l3', k1, k2, k3, k4, k3', hsn]
      omega
    · simp [F50, rcall70, rcall72, rcall68, h8, hc, o1, storeM, evalW, source, c1, c2, l1, l2, l3, l4, l3', k1, k2, k3, k4, k3', hsn]
      omega
set_option maxRecDepth 100000 in
set_option maxHeartbeats 64000000 in
theorem addEntryI (k : Nat) (p0 p1 se st te ts : Int) (hs : List GHead) (ls : List GLast) (es : List GEntry) (fe fs : Int) (cs : List GChunk) (e : GEntry) (g1 g2 : Bool) (r : Res) (ha : g1 = true → g2 = true → ∀ k, call code (k + 4) 50 [psV p0 p1 se st te ts hs ls es fe fs cs, .agg (GEntry.enc e)] [] = some r)
    (hr : g1 = true → g2 = true → ∃ q0 q1 q2 q3 q4 q5 rh rl re q9 q10 rc c, r = resPC q0 q1 q2 q3 q4 q5 rh rl re q9 q10 rc c)
    (o1 : ∀ k, call code (k + 7) 28 [psV p0 p1 se st te ts hs ls es fe fs cs] [] = some ⟨.bool g1, [], []⟩) (o2 : ∀ k, call code (k + 5) 49 [.agg (GEntry.enc e)] [] = some ⟨.bool g2, [], []⟩) :
    call code (k + 8) 15 [psV p0 p1 se st te ts hs ls es fe fs cs, .agg (GEntry.enc e)] [] = some (if g1 && g2 then r else zeroPC 1) := by
  refine call_run rfl fn15 rfl ?_
  have n1 : rws GHead.enc [] = [] := rfl
  have n2 : rws GLast.enc [] = [] := rfl
  have n3 : rws GEntry.enc [] = [] := rfl
  have n4 : rws GChunk.enc [] = [] := rfl
  unfold psV zeroPC resPC at *
  simp only [GEntry.enc] at *
  rw [n1, n2, n3, n4]
  cases g1
  · simp [F15, rcall28, o1, storeM]
  cases g2
  · simp [F15, rcall28, rcall49, o1, o2, storeM]
  obtain ⟨q0, q1, q2, q3, q4, q5, rh, rl, re, q9, q10, rc, c, rfl⟩ := hr rfl rfl
  have ha := ha rfl rfl
  have l1 := rws_len (enc := GHead.enc) rh
  have l2 := rws_len (enc := GLast.enc) rl
  have l3 := rws_len (enc := GEntry.enc) re
  have l4 := rws_len (enc := GChunk.enc) rc
  have k1 := tkE (enc := GHead.enc) (l := rh) rfl
  have k2 := tkE (enc := GLast.enc) (l := rl) rfl
  have k3 := tkE (enc := GEntry.enc) (l := re) rfl
  have k4 := tkE (enc := GChunk.enc) (l := rc) rfl
  generalize rws GHead.enc rh = R1 at *
  generalize rws GLast.enc rl = R2 at *
  generalize rws GEntry.enc re = R3 at *
  generalize rws GChunk.enc rc = R4 at *
  simp [F15, rcall28, rcall49, rcall50, o1, o2, ha, storeM, l1, l2, l3, l4, k1, k2, k3, k4]
end Go.Ae.GA
namespace Go.Ae.GA
set_option linter.unusedSimpArgs false
set_option linter.unusedVariables false
set_option maxRecDepth 100000 in
set_option maxHeartbeats 64000000 in
theorem addEntryS (k : Nat) (p0 p1 se st te ts : Int) (hs : List GHead) (ls : List GLast) (es : List GEntry) (fe fs : Int) (cs : List GChunk) (e : GEntry) (g1 g2 : Bool)
    (b1 : hs.length ≤ 900000) (b2 : ls.length ≤ 1048576) (b3 : es.length ≤ 1000) (b4 : cs.length ≤ 1048576) (g : Bool) (hg : g = (e.Prior_Epoch == lsE te (·.Ver_Epoch) es && e.Prior_Seq == lsE ts (·.Ver_Seq) es)) (gl : Bool)
    (hgl : gl = (decide (es.length < 24) && decide ((putH (hdI hs es es.length) e).length ≤ 16)))
    (o1 : ∀ k, call code (k + 7) 20 [psV p0 p1 se st te ts hs ls es fe fs cs] [] = some ⟨.bool g1, [], []⟩) (o2 : ∀ k, call code (k + 5) 44 [.agg (GEntry.enc e)] [] = some ⟨.bool g2, [], []⟩) :
    call code (k + 8) 13 [psV p0 p1 se st te ts hs ls es fe fs cs, .agg (GEntry.enc e)] [] = some (if g1 && g2 then (if g then (if gl then resPC p0 p1 se st te ts hs ls (es ++ [e]) fe fs cs 0 else zeroPC 4) else zeroPC 5) else zeroPC 1) := by
  refine call_run rfl fn13 rfl ?_
  have h8 := fun k => l17LastOf k p0 p1 se st te ts hs ls es fe fs cs (by omega)
  have hc := fun k => l17Copy k p0 p1 se st te ts hs ls es fe fs cs (by omega) b2 (by omega) b4
  have hh := fun k => l17HeadsAt k p0 p1 se st te ts hs ls es fe fs cs es.length (by omega) (by omega) (Nat.le_refl _)
  have hp := fun k => l17Put k (hdI hs es es.length) e (by have := hdI_le hs es es.length; omega)
  have l1 := rws_len (enc := GHead.enc) hs
  have l2 := rws_len (enc := GLast.enc) ls
  have l3 := rws_len (enc := GEntry.enc) es
  have l3' := rws_len (enc := GEntry.enc) (es ++ [e])
  have l4 := rws_len (enc := GChunk.enc) cs
  have l5 := rws_len (enc := GHead.enc) (hdI hs es es.length)
  have k1 := tkE (enc := GHead.enc) (l := hs) rfl
  have k2 := tkE (enc := GLast.enc) (l := ls) rfl
  have k3 := tkE (enc := GEntry.enc) (l := es) rfl
  have k3' := tkE (enc := GEntry.enc) (l := es ++ [e]) rfl
  have k4 := tkE (enc := GChunk.enc) (l := cs) rfl
  have k5 := tkE (enc := GHead.enc) (l := hdI hs es es.length) rfl
  have n1 : rws GHead.enc [] = [] := rfl
  have n2 : rws GLast.enc [] = [] := rfl
  have n3 : rws GEntry.enc [] = [] := rfl
  have n4 : rws GChunk.enc [] = [] := rfl
  have hsn := rws_snoc GEntry.enc es e
  have hll : (es ++ [e]).length = es.length + 1 := by simp
  rw [hll] at l3' k3'
  unfold psV resPS at *
  unfold zeroPC resPC
  rw [n1, n2, n3, n4, hll]
  simp only [GEntry.enc] at hsn hp o2 ⊢
  generalize rws GEntry.enc (es ++ [e]) = R3' at *
  generalize rws GHead.enc hs = R1 at *
  generalize rws GLast.enc ls = R2 at *
  generalize rws GEntry.enc es = R3 at *
  generalize rws GChunk.enc cs = R4 at *
  generalize rws GHead.enc (putH (hdI hs es es.length) e) = R6 at *
  generalize (putH (hdI hs es es.length) e).length = n6 at *
  generalize rws GHead.enc (hdI hs es es.length) = R5 at *
  generalize (hdI hs es es.length).length = n5 at *
  generalize lsE te (·.Ver_Epoch) es = x1 at *
  generalize lsE ts (·.Ver_Seq) es = x2 at *
  generalize e.Prior_Epoch = y1 at *
  generalize e.Prior_Seq = y2 at *
  cases g1
  · simp [F13, rcall20, o1, storeM]
  cases g2
  · simp [F13, rcall20, rcall44, o1, o2, storeM]
  cases c1 : (y1 == x1) <;> cases c2 : (y2 == x2) <;> rw [c1, c2] at hg <;> subst hg
  · simp [F13, rcall20, rcall44, rcall45, o1, o2, h8, storeM, c1, c2]
  · simp [F13, rcall20, rcall44, rcall45, o1, o2, h8, storeM, c1, c2]
  · simp [F13, rcall20, rcall44, rcall45, o1, o2, h8, storeM, c1, c2]
  by_cases d1 : es.length < 24
  · have d1' : decide ((24 : Int) ≤ (es.length : Int)) = false := by simp; omega
    by_cases d2 : n6 ≤ 16
    · have d2' : decide ((16 : Int) < (n6 : Int)) = false := by simp; omega
      have hgt : gl = true := by rw [hgl]; simp [d1, d2]
      subst hgt
      simp [F13, rcall20, rcall44, rcall45, rcall47, rcall46, rcall21, o1, o2, h8, hc, hh, hp, storeM, evalW, source, c1, c2, d1', d2', l1, l2, l3, l4, l3', k1, k2, k3, k4, k3', l5, k5, hsn]
      omega
    · have d2' : decide ((16 : Int) < (n6 : Int)) = true := by simp; omega
      have hgt : gl = false := by rw [hgl]; simp [d1]; omega
      subst hgt
      simp [F13, rcall20, rcall44, rcall45, rcall47, rcall46, rcall21, o1, o2, h8, hc, hh, hp, storeM, evalW, source, c1, c2, d1', d2', l1, l2, l3, l4, l3', k1, k2, k3, k4, k3', l5, k5, hsn]
  · have d1' : decide ((24 : Int) ≤ (es.length : Int)) = true := by simp; omega
    have hgt : gl = false := by rw [hgl]; simp; omega
    subst hgt
    simp [F13, rcall20, rcall44, rcall45, rcall47, rcall46, rcall21, o1, o2, h8, hc, hh, hp, storeM, evalW, source, c1, c2, d1', l1, l2, l3, l4, l3', k1, k2, k3, k4, k3', l5, k5, hsn]
end Go.Ae.GA
namespace Go.Ae.GA
set_option linter.unusedSimpArgs false
set_option linter.unusedVariables false
theorem addEntryS0 (k : Nat) (p0 p1 se st te ts : Int) (hs : List GHead) (ls : List GLast) (es : List GEntry) (fe fs : Int) (cs : List GChunk) (e : GEntry)
    (o1 : ∀ k, call code (k + 7) 20 [psV p0 p1 se st te ts hs ls es fe fs cs] [] = some ⟨.bool false, [], []⟩) :
    call code (k + 8) 13 [psV p0 p1 se st te ts hs ls es fe fs cs, .agg (GEntry.enc e)] [] = some (zeroPC 1) := by
  refine call_run rfl fn13 rfl ?_
  have n1 : rws GHead.enc [] = [] := rfl
  have n2 : rws GLast.enc [] = [] := rfl
  have n3 : rws GEntry.enc [] = [] := rfl
  have n4 : rws GChunk.enc [] = [] := rfl
  unfold psV zeroPC resPC at *
  simp only [GEntry.enc] at *
  rw [n1, n2, n3, n4]
  simp [F13, rcall20, o1, storeM]
theorem prE_lsE (te : Int) (f : GEntry → Int) (es : List GEntry) : prE te f es es.length = lsE te f es := by
  cases h : es.length with
  | zero =>
    have : es = [] := List.length_eq_zero_iff.1 h
    subst this; rfl
  | succ n => unfold prE lsE; rw [h]; rfl
theorem addEntrys (p0 p1 se st te ts : Int) (hs : List GHead) (ls : List GLast) (es : List GEntry) (fe fs : Int) (cs : List GChunk) (e : GEntry) (b : Few hs ls es cs) (he : e.Name.size ≤ 1048576) :
    ∃ r0 r1 r2 r3 r4 r5 rh rl re r9 r10 rc c, (∀ k, call code (k + 8) 15 [psV p0 p1 se st te ts hs ls es fe fs cs, .agg (GEntry.enc e)] [] = some (resPC r0 r1 r2 r3 r4 r5 rh rl re r9 r10 rc c)) ∧
      (∀ k, call code (k + 8) 13 [psV p0 p1 se st te ts hs ls es fe fs cs, .agg (GEntry.enc e)] [] = some (resPC r0 r1 r2 r3 r4 r5 rh rl re r9 r10 rc c)) ∧ Few rh rl re rc := by
  have i1 := fun k => stateOk k p0 p1 se st te ts hs ls es fe fs cs b.h b.l b.e b.c b.hn b.en b.cn
  have s1 := fun k => stateOkS k p0 p1 se st te ts hs ls es fe fs cs b.h b.l b.e b.c b.hn b.en b.cn
  have i2 := fun k => entryOk k e.Ver_Epoch e.Ver_Seq e.Prior_Epoch e.Prior_Seq e.Name e.Gone e.Size e.Sum e.Req_Client e.Req_No he
  have s2 := fun k => entryOkS k e.Ver_Epoch e.Ver_Seq e.Prior_Epoch e.Prior_Seq e.Name e.Gone e.Size e.Sum e.Req_Client e.Req_No he
  cases g1 : stateB p0 p1 se st te ts hs ls es fe fs cs
  · rw [g1] at i1 s1
    have I := fun k => addEntryI k p0 p1 se st te ts hs ls es fe fs cs e false _ (zeroPC 0) (fun h => by cases h) (fun h => by cases h) i1 i2
    have S := fun k => addEntryS0 k p0 p1 se st te ts hs ls es fe fs cs e s1
    simp only [Bool.false_and, Bool.false_eq_true, if_false] at I
    exact ⟨_, _, _, _, _, _, _, _, _, _, _, _, _, I, S, few_nil⟩
  rw [g1] at i1 s1
  have hst := g1
  unfold stateB baseB at hst
  simp only [Bool.and_eq_true] at hst
  obtain ⟨_, _, _, _, ⟨hhA, hrest⟩, hlg, _⟩ := hst
  have hlen24 : es.length ≤ 24 := by
    have := hlg; unfold lgB at this; simp only [Bool.and_eq_true, decide_eq_true_eq] at this; omega
  have hh16 : hs.length ≤ 16 := by
    simp only [decide_eq_true_eq] at hrest
    omega
  have hsr : Srt hs := srt_of hhA
  have hn := fun k => logOkN k p0 p1 se st te ts hs ls (es ++ [e]) fe fs cs b.h (by simp; omega) b.hn (fun c hc => by
    rcases List.mem_append.1 hc with hc | hc
    · exact b.en c hc
    · simp at hc; subst hc; exact he)
  have hlq := logB_eq hsr te ts (es ++ [e])
  rw [hlq] at hn
  have A := fun k => adding k p0 p1 se st te ts hs ls es fe fs cs e b.h b.l (by omega) b.c _ rfl _ hn
  have I := fun k => addEntryI k p0 p1 se st te ts hs ls es fe fs cs e true _ _ (fun _ _ => A) (fun _ _ => by
    split
    · split
      · exact ⟨_, _, _, _, _, _, _, _, _, _, _, _, _, rfl⟩
      · exact ⟨_, _, _, _, _, _, _, _, _, _, _, _, _, rfl⟩
    · exact ⟨_, _, _, _, _, _, _, _, _, _, _, _, _, rfl⟩) i1 i2
  have S := fun k => addEntryS k p0 p1 se st te ts hs ls es fe fs cs e true _ (by omega) b.l (by omega) b.c _ rfl _ rfl s1 s2
  cases g2 : entB ⟨e.Ver_Epoch, e.Ver_Seq, e.Prior_Epoch, e.Prior_Seq, e.Name, e.Gone, e.Size, e.Sum, e.Req_Client, e.Req_No⟩
  · rw [g2] at I S
    simp only [Bool.and_false, Bool.false_eq_true, if_false] at I S
    exact ⟨_, _, _, _, _, _, _, _, _, _, _, _, _, I, S, few_nil⟩
  rw [g2] at I S
  simp only [Bool.and_true, if_true] at I S
  cases g : (e.Prior_Epoch == lsE te (·.Ver_Epoch) es && e.Prior_Seq == lsE ts (·.Ver_Seq) es)
  · rw [g] at I S
    simp only [Bool.false_eq_true, if_false] at I S
    exact ⟨_, _, _, _, _, _, _, _, _, _, _, _, _, I, S, few_nil⟩
  rw [g] at I S
  simp only [if_true] at I S
  simp only [Bool.and_eq_true, beq_iff_eq] at g
  have hsnoc := lgB_snoc hlg (e := e) g2 (g.1.trans (prE_lsE te _ es).symm) (g.2.trans (prE_lsE ts _ es).symm)
  rw [hsnoc] at I
  cases gl : (decide (es.length < 24) && decide ((putH (hdI hs es es.length) e).length ≤ 16))
  · rw [gl] at I S
    simp only [Bool.false_eq_true, if_false] at I S
    exact ⟨_, _, _, _, _, _, _, _, _, _, _, _, _, I, S, few_nil⟩
  · rw [gl] at I S
    simp only [if_true] at I S
    refine ⟨_, _, _, _, _, _, _, _, _, _, _, _, _, I, S, ⟨b.h, b.l, by simp; omega, b.c, b.hn, fun c hc => ?_, b.cn⟩⟩
    rcases List.mem_append.1 hc with hc | hc
    · exact b.en c hc
    · simp at hc; subst hc; exact he
end Go.Ae.GA
