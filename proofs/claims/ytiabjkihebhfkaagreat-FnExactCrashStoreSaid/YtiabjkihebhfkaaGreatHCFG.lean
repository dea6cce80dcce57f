/- Chunks in order: the program's check and the reference's. -/
import Derived.Test.YtiabjkihebhfkaaGreatHCDE
namespace Go.Ae.GA.B
set_option linter.unusedSimpArgs false
set_option linter.unusedVariables false
theorem bl_irr : ∀ l : List UInt8, Op.bytesLess l l = false
  | [] => rfl
  | a :: x => by simp [Op.bytesLess, bl_irr x]
theorem tl (s : ByteArray) : s.toList = s.data.toList := ByteArray.toList_eq s
theorem cmpN_lt (a b : ByteArray) : cmpN a b < 0 ↔ Op.bytesLess a.toList b.toList = true := by
  rw [tl, tl]
  unfold cmpN
  by_cases h : a.data.toList = b.data.toList
  · rw [if_pos h, h, bl_irr]; simp
  · rw [if_neg h]
    by_cases h2 : Op.bytesLess a.data.toList b.data.toList = true <;> simp [h2]
theorem cmpN_zero (a b : ByteArray) : cmpN a b = 0 ↔ a.toList = b.toList := by
  rw [tl, tl]
  unfold cmpN
  by_cases h : a.data.toList = b.data.toList
  · simp [h]
  · rw [if_neg h]
    by_cases h2 : Op.bytesLess a.data.toList b.data.toList = true <;> simp [h, h2]
def cmpC (a b : GChunk) : Int := orL [cmpN a.Name b.Name, cmpV a.Ver_Epoch a.Ver_Seq b.Ver_Epoch b.Ver_Seq, cmpI a.Pos b.Pos]
def lessC (a b : GChunk) : Bool := if a.Name.toList != b.Name.toList then Op.bytesLess a.Name.toList b.Name.toList else if a.Ver_Epoch != b.Ver_Epoch || a.Ver_Seq != b.Ver_Seq then lessB a.Ver_Epoch a.Ver_Seq b.Ver_Epoch b.Ver_Seq else decide (a.Pos < b.Pos)
theorem cmpV_zero (a b c d : Int) : cmpV a b c d = 0 ↔ a = c ∧ b = d := by
  unfold cmpV orL orL orL cmpI
  by_cases h1 : a < c
  · simp [h1]; omega
  · by_cases h2 : c < a
    · simp [h1, h2]; omega
    · have : a = c := by omega
      subst this
      by_cases h3 : b < d
      · simp [h3]; omega
      · by_cases h4 : d < b
        · simp [h3, h4]; omega
        · simp [h3, h4]; omega
theorem cmpC_lt (a b : GChunk) : decide (0 ≤ cmpC a b) = !lessC a b := by
  unfold cmpC lessC
  rw [orL]
  by_cases h1 : cmpN a.Name b.Name = 0
  · have h1' := (cmpN_zero _ _).1 h1
    rw [if_pos h1, h1']
    simp only [bne_self_eq_false, Bool.false_eq_true, if_false]
    rw [orL]
    by_cases h2 : cmpV a.Ver_Epoch a.Ver_Seq b.Ver_Epoch b.Ver_Seq = 0
    · obtain ⟨e1, e2⟩ := (cmpV_zero _ _ _ _).1 h2
      rw [if_pos h2, e1, e2]
      simp only [bne_self_eq_false, Bool.or_self, Bool.false_eq_true, if_false]
      rw [orL, orL]
      unfold cmpI
      by_cases h3 : a.Pos < b.Pos
      · simp [h3]
      · by_cases h4 : b.Pos < a.Pos <;> simp [h3, h4]
    · rw [if_neg h2]
      have h2' : ¬ (a.Ver_Epoch = b.Ver_Epoch ∧ a.Ver_Seq = b.Ver_Seq) := fun h => h2 ((cmpV_zero _ _ _ _).2 h)
      have e : (a.Ver_Epoch != b.Ver_Epoch || a.Ver_Seq != b.Ver_Seq) = true := by
        by_cases h5 : a.Ver_Epoch = b.Ver_Epoch
        · have : a.Ver_Seq ≠ b.Ver_Seq := fun h => h2' ⟨h5, h⟩
          simp [bne_iff_ne, this]
        · simp [bne_iff_ne, h5]
      rw [e, if_pos rfl, ← cmpV_neg]
      by_cases h6 : cmpV a.Ver_Epoch a.Ver_Seq b.Ver_Epoch b.Ver_Seq < 0
      · have : ¬ 0 ≤ cmpV a.Ver_Epoch a.Ver_Seq b.Ver_Epoch b.Ver_Seq := by omega
        simp [h6, this]
      · have : 0 ≤ cmpV a.Ver_Epoch a.Ver_Seq b.Ver_Epoch b.Ver_Seq := by omega
        simp [h6, this]
  · rw [if_neg h1]
    have h1' : (a.Name.toList != b.Name.toList) = true := by rw [bne_iff_ne]; exact fun h => h1 ((cmpN_zero _ _).2 h)
    rw [h1', if_pos rfl]
    have := cmpN_lt a.Name b.Name
    cases h7 : Op.bytesLess a.Name.toList b.Name.toList
    · rw [h7] at this
      have : ¬ cmpN a.Name b.Name < 0 := fun h => by simpa using this.1 h
      have : 0 ≤ cmpN a.Name b.Name := by omega
      simp [this]
    · have : cmpN a.Name b.Name < 0 := this.2 h7
      have : ¬ 0 ≤ cmpN a.Name b.Name := by omega
      simp [this]
theorem compareChunks (k : Nat) (a b : GChunk) : call code (k + 4) 171 [.agg (GChunk.enc a), .agg (GChunk.enc b)] [] = some ⟨.int .i64 (cmpC a b), [], []⟩ := by
  refine call_run rfl fn171 rfl ?_
  have o := fun k => orS k [cmpN a.Name b.Name, cmpV a.Ver_Epoch a.Ver_Seq b.Ver_Epoch b.Ver_Seq, cmpI a.Pos b.Pos] (by simp)
  have n := fun k => nat225 k [.str a.Name, .str b.Name] [] _ _ rfl
  simp only [rws, List.map, encI] at o
  unfold cmpC
  simp only [GChunk.enc]
  simp [F171, rcall225, n, rcall111, compareVers, rcall185, compare, rcall188, o]
theorem chunkLess (k : Nat) (a b : GChunk) : call code (k + 4) 160 [.agg (GChunk.enc a), .agg (GChunk.enc b)] [] = some ⟨.bool (lessC a b), [], []⟩ := by
  refine call_run rfl fn160 rfl ?_
  unfold lessC
  simp only [GChunk.enc]
  have d1 : (a.Name.toList == b.Name.toList) = !(a.Name.toList != b.Name.toList) := by simp [bne]
  have d2 : (a.Ver_Epoch == b.Ver_Epoch) = !(a.Ver_Epoch != b.Ver_Epoch) := by simp [bne]
  have d3 : (a.Ver_Seq == b.Ver_Seq) = !(a.Ver_Seq != b.Ver_Seq) := by simp [bne]
  have v := fun k => verLessS k a.Ver_Epoch a.Ver_Seq b.Ver_Epoch b.Ver_Seq
  cases c1 : a.Name.toList != b.Name.toList
  rotate_left
  · rw [c1] at d1
    simp [F160, d1]
  rw [c1] at d1
  cases c2 : a.Ver_Epoch != b.Ver_Epoch <;> cases c3 : a.Ver_Seq != b.Ver_Seq <;> rw [c2] at d2 <;> rw [c3] at d3 <;> simp [F160, d1, d2, d3, rcall83, v]
end Go.Ae.GA.B
namespace Go.Ae.GA.B
set_option linter.unusedSimpArgs false
set_option linter.unusedVariables false
/-- A placement group's state, as it is handed over. -/
abbrev psV (p0 p1 se st te ts : Int) (hs : List GHead) (ls : List GLast) (es : List GEntry) (fe fs : Int) (cs : List GChunk) : AV :=
  .agg [.int .i64 p0, .int .i64 p1, .int .i64 se, .int .i64 st, .int .i64 te, .int .i64 ts, .rd true (rws GHead.enc hs), .rd true (rws GLast.enc ls), .rd true (rws GEntry.enc es), .int .i64 fe, .int .i64 fs, .rd true (rws GChunk.enc cs)]
theorem range_all {n : Nat} {p : Nat → Bool} : (List.range n).all p = true ↔ ∀ i, i < n → p i = true := by
  rw [List.all_eq_true]
  exact ⟨fun h i hi => h i (List.mem_range.2 hi), fun h i hi => h i (List.mem_range.1 hi)⟩
theorem range_false {n : Nat} {p : Nat → Bool} {i : Nat} (hi : i < n) (h : p i = false) : (List.range n).all p = false := by
  rw [Bool.eq_false_iff]
  intro h2
  rw [range_all.1 h2 i hi] at h
  cases h
def chkG (c : GChunk) : Bool := chkB c.Name c.Ver_Epoch c.Ver_Seq c.Pos c.Sum c.Bytes
def okC (cs : List GChunk) (i : Nat) : Bool := match cs[i]? with
  | some c => chkG c && (match i with
    | 0 => true
    | j + 1 => match cs[j]? with
      | some b => lessC b c
      | none => false)
  | none => false
def chksB (cs : List GChunk) : Bool := (List.range cs.length).all (okC cs) && decide ((cs.length : Int) ≤ 160)
theorem okC_zero {cs : List GChunk} (h : 0 < cs.length) : okC cs 0 = chkG cs[0] := by
  unfold okC; rw [List.getElem?_eq_getElem h]; simp
theorem okC_succ {cs : List GChunk} {i : Nat} (h : i < cs.length) (h0 : 0 < i) : okC cs i = (chkG cs[i] && lessC (cs[i - 1]'(by omega)) cs[i]) := by
  unfold okC
  rw [List.getElem?_eq_getElem h]
  obtain ⟨j, rfl⟩ : ∃ j, i = j + 1 := ⟨i - 1, by omega⟩
  simp [List.getElem?_eq_getElem (show j < cs.length by omega)]
set_option maxRecDepth 100000 in
set_option maxHeartbeats 16000000 in
theorem chunksOk (k : Nat) (p0 p1 se st te ts : Int) (hs : List GHead) (ls : List GLast) (es : List GEntry) (fe fs : Int) (cs : List GChunk) (hn : cs.length ≤ 1048576) (hz : ∀ c ∈ cs, c.Name.size ≤ 1048576) : call code (k + 6) 146 [psV p0 p1 se st te ts hs ls es fe fs cs] [] = some ⟨.bool (chksB cs), [], []⟩ := by
  refine call_run rfl fn146 rfl ?_
  simp [F146]
  refine RunC_loop (fun i : Nat => ⟨tm 36 [(1, .ptr 0 0 0 [] 0 0), (6, .rd true (rws GChunk.enc cs)), (7, .int .i64 cs.length), (8, .int .i64 i)], [(0, some ⟨0, 12, true, false, [[.int .i64 p0, .int .i64 p1, .int .i64 se, .int .i64 st, .int .i64 te, .int .i64 ts, .rd true (rws GHead.enc hs), .rd true (rws GLast.enc ls), .rd true (rws GEntry.enc es), .int .i64 fe, .int .i64 fs, .rd true (rws GChunk.enc cs)]]⟩)], []⟩)
    (fun i => i ≤ cs.length ∧ ∀ j, j < i → okC cs j = true) (fun i => cs.length - i) 0 ⟨by omega, by omega⟩ (by simp; omega) (by simp [tm]) fun i hi _ => ?_
  obtain ⟨hi, h0⟩ := hi
  by_cases hlt : i < cs.length
  · have hs' := idx_succ' hlt (by omega)
    have hg : ∀ hh, (rws GChunk.enc cs)[i]'hh = GChunk.enc cs[i] := fun hh => rws_get ..
    have hrl := rws_len (enc := GChunk.enc) cs
    have ck := fun k => chunkOk k cs[i].Name cs[i].Ver_Epoch cs[i].Ver_Seq cs[i].Pos cs[i].Sum cs[i].Bytes (hz _ (List.getElem_mem hlt))
    have next : okC cs i = true → ∃ a, (a ≤ cs.length ∧ ∀ j, j < a → okC cs j = true) ∧ cs.length - a < cs.length - i ∧ ((i + 1 : Nat) : Int) = (a : Int) := fun h => ⟨i + 1, ⟨by omega, fun j hj => by
      rcases Nat.lt_succ_iff_lt_or_eq.1 hj with h1 | rfl
      · exact h0 j h1
      · exact h⟩, by omega, rfl⟩
    have stop : okC cs i = false → chksB cs = false := fun h => by unfold chksB; rw [range_false hlt h]; rfl
    by_cases hz0 : i = 0
    · subst hz0
      have e := okC_zero hlt
      cases c1 : chkG cs[0]
      · rw [c1] at e
        unfold chkG at c1
        rw [c1] at ck
        have := stop e
        simp only [GChunk.enc] at hg
        simp [tm, hlt, hg, storeM, rcall88, ck, this]
      · rw [c1] at e
        unfold chkG at c1
        rw [c1] at ck
        have := next e
        simp only [GChunk.enc] at hg
        have w01 : IntKind.wrap .i64 1 = 1 := wrap64 ⟨by omega, by omega⟩
        simp [tm, hlt, hg, storeM, rcall88, ck, w01]
        simpa using this
    · have e := okC_succ hlt (by omega)
      have hg2 : ∀ hh, (rws GChunk.enc cs)[i - 1]'hh = GChunk.enc (cs[i - 1]'(by omega)) := fun hh => rws_get ..
      have w1 : IntKind.wrap .i64 ((i : Int) - 1) = ((i - 1 : Nat) : Int) := by rw [wrap64 ⟨by omega, by omega⟩]; omega
      have hi1 : i - 1 < cs.length := by omega
      have cc := fun k => compareChunks k (cs[i - 1]'(by omega)) cs[i]
      have cl := cmpC_lt (cs[i - 1]'(by omega)) cs[i]
      have hi0 : 0 < i := by omega
      cases c1 : chkG cs[i]
      · rw [c1] at e
        unfold chkG at c1
        rw [c1] at ck
        have := stop e
        simp only [GChunk.enc] at hg
        simp [tm, hlt, hg, storeM, rcall88, ck, this]
      rw [c1, Bool.true_and] at e
      unfold chkG at c1
      rw [c1] at ck
      rw [← e] at cl
      cases c2 : okC cs i
      · have := stop c2
        rw [c2] at cl
        simp only [GChunk.enc] at hg hg2 cc
        simp [tm, hlt, hg, storeM, rcall88, ck, hi0, w1, hi1, hrl, hg2, rcall171, cc, cl, this]
      · have := next c2
        rw [c2] at cl
        simp only [GChunk.enc] at hg hg2 cc
        simp [tm, hlt, hg, storeM, rcall88, ck, hi0, w1, hi1, hrl, hg2, rcall171, cc, cl, hs']
        simpa using this
  · have : i = cs.length := by omega
    subst this
    have e : chksB cs = decide ((cs.length : Int) ≤ 160) := by unfold chksB; rw [range_all.2 h0]; rfl
    rw [e]
    have hrl := rws_len (enc := GChunk.enc) cs
    simp [tm, hrl]
set_option maxRecDepth 100000 in
set_option maxHeartbeats 16000000 in
theorem l17Chunks (k : Nat) (cs : List GChunk) (hn : cs.length ≤ 1048576) (hz : ∀ c ∈ cs, c.Name.size ≤ 1048576) : call code (k + 6) 103 [.rd true (rws GChunk.enc cs)] [] = some ⟨.bool (chksB cs), [], []⟩ := by
  refine call_run rfl fn103 rfl ?_
  simp [F103]
  refine RunC_loop (fun i : Nat => ⟨tm 40 [(0, .rd true (rws GChunk.enc cs)), (3, .int .i64 i)], [], []⟩)
    (fun i => i ≤ cs.length ∧ ∀ j, j < i → okC cs j = true) (fun i => cs.length - i) 0 ⟨by omega, by omega⟩ (by simp; omega) (by simp [tm]) fun i hi _ => ?_
  obtain ⟨hi, h0⟩ := hi
  by_cases hlt0 : 160 < i
  · have e : chksB cs = false := by unfold chksB; rw [show decide ((cs.length : Int) ≤ 160) = false from decide_eq_false (by omega)]; simp
    have hrl := rws_len (enc := GChunk.enc) cs
    have d1 : ¬ (i : Int) ≤ 160 := by omega
    have d2 : ¬ (cs.length : Int) ≤ 160 := by omega
    have d3 : ¬ i ≤ 160 := by omega
    have d4 : ¬ cs.length ≤ 160 := by omega
    rw [e]
    by_cases hlt : i < cs.length <;> simp [tm, hlt, d1, hrl, d1, d2, d3, d4]
  have d1 : (i : Int) ≤ 160 := by omega
  by_cases hlt : i < cs.length
  · have hs' := idx_succ' hlt (by omega)
    have hg : ∀ hh, (rws GChunk.enc cs)[i]'hh = GChunk.enc cs[i] := fun hh => rws_get ..
    have hrl := rws_len (enc := GChunk.enc) cs
    have ck := fun k => chunkOkS k cs[i].Name cs[i].Ver_Epoch cs[i].Ver_Seq cs[i].Pos cs[i].Sum cs[i].Bytes (hz _ (List.getElem_mem hlt))
    have next : okC cs i = true → ∃ a, (a ≤ cs.length ∧ ∀ j, j < a → okC cs j = true) ∧ cs.length - a < cs.length - i ∧ ((i + 1 : Nat) : Int) = (a : Int) := fun h => ⟨i + 1, ⟨by omega, fun j hj => by
      rcases Nat.lt_succ_iff_lt_or_eq.1 hj with h1 | rfl
      · exact h0 j h1
      · exact h⟩, by omega, rfl⟩
    have stop : okC cs i = false → chksB cs = false := fun h => by unfold chksB; rw [range_false hlt h]; rfl
    by_cases hz0 : i = 0
    · subst hz0
      have e := okC_zero hlt
      cases c1 : chkG cs[0]
      · rw [c1] at e
        unfold chkG at c1
        rw [c1] at ck
        have := stop e
        simp only [GChunk.enc] at hg
        simp [tm, hlt, d1, hg, storeM, rcall86, ck, this]
      · rw [c1] at e
        unfold chkG at c1
        rw [c1] at ck
        have := next e
        simp only [GChunk.enc] at hg
        have w01 : IntKind.wrap .i64 1 = 1 := wrap64 ⟨by omega, by omega⟩
        simp [tm, hlt, d1, hg, storeM, rcall86, ck, w01]
        simpa using this
    · have e := okC_succ hlt (by omega)
      have hg2 : ∀ hh, (rws GChunk.enc cs)[i - 1]'hh = GChunk.enc (cs[i - 1]'(by omega)) := fun hh => rws_get ..
      have w1 : IntKind.wrap .i64 ((i : Int) - 1) = ((i - 1 : Nat) : Int) := by rw [wrap64 ⟨by omega, by omega⟩]; omega
      have hi1 : i - 1 < cs.length := by omega
      have cc := fun k => chunkLess k (cs[i - 1]'(by omega)) cs[i]
      have hi0 : 0 < i := by omega
      cases c1 : chkG cs[i]
      · rw [c1] at e
        unfold chkG at c1
        rw [c1] at ck
        have := stop e
        simp only [GChunk.enc] at hg
        simp [tm, hlt, d1, hg, storeM, rcall86, ck, this]
      rw [c1, Bool.true_and] at e
      unfold chkG at c1
      rw [c1] at ck
      rw [← e] at cc
      cases c2 : okC cs i
      · have := stop c2
        rw [c2] at cc
        simp only [GChunk.enc] at hg hg2 cc
        simp [tm, hlt, d1, hg, storeM, rcall86, ck, hi0, w1, hi1, hrl, hg2, rcall160, cc, this]
      · have := next c2
        rw [c2] at cc
        simp only [GChunk.enc] at hg hg2 cc
        simp [tm, hlt, d1, hg, storeM, rcall86, ck, hi0, w1, hi1, hrl, hg2, rcall160, cc, hs']
        simpa using this
  · have : i = cs.length := by omega
    subst this
    have e : chksB cs = decide ((cs.length : Int) ≤ 160) := by unfold chksB; rw [range_all.2 h0]; rfl
    rw [e]
    have hrl := rws_len (enc := GChunk.enc) cs
    simp [tm, d1, hrl]
end Go.Ae.GA.B
