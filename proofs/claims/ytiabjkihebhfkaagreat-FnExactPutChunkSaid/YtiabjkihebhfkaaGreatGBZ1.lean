/- Where a chunk stands among chunks in order: both sides. -/
import Derived.Test.YtiabjkihebhfkaaGreatGBM4
import Derived.Test.YtiabjkihebhfkaaGreatAeL6
import Derived.Test.YtiabjkihebhfkaaGreatGBM5
namespace Go.Ae.GA.B
set_option linter.unusedSimpArgs false
set_option linter.unusedVariables false
def eq4 (a b : GChunk) : Prop := a.Name.toList = b.Name.toList ∧ a.Ver_Epoch = b.Ver_Epoch ∧ a.Ver_Seq = b.Ver_Seq ∧ a.Pos = b.Pos
def lsC (a b : GChunk) : Prop := Op.bytesLess a.Name.toList b.Name.toList = true ∨ (a.Name.toList = b.Name.toList ∧ (a.Ver_Epoch < b.Ver_Epoch ∨ (a.Ver_Epoch = b.Ver_Epoch ∧ (a.Ver_Seq < b.Ver_Seq ∨ (a.Ver_Seq = b.Ver_Seq ∧ a.Pos < b.Pos)))))
theorem lessC_iff (a b : GChunk) : lessC a b = true ↔ lsC a b := by
  unfold lessC lsC
  by_cases h1 : a.Name.toList = b.Name.toList
  · have e : (a.Name.toList != b.Name.toList) = false := by simp [h1]
    rw [e, h1, bl_irr]
    simp only [Bool.false_eq_true, if_false, false_or, true_and]
    by_cases h2 : a.Ver_Epoch = b.Ver_Epoch ∧ a.Ver_Seq = b.Ver_Seq
    · have e : (a.Ver_Epoch != b.Ver_Epoch || a.Ver_Seq != b.Ver_Seq) = false := by simp [h2.1, h2.2]
      rw [e]
      simp only [Bool.false_eq_true, if_false, decide_eq_true_eq]
      omega
    · have e : (a.Ver_Epoch != b.Ver_Epoch || a.Ver_Seq != b.Ver_Seq) = true := by
        by_cases h5 : a.Ver_Epoch = b.Ver_Epoch
        · have : a.Ver_Seq ≠ b.Ver_Seq := fun h => h2 ⟨h5, h⟩
          simp [bne_iff_ne, this]
        · simp [bne_iff_ne, h5]
      rw [e]
      unfold lessB
      simp only [if_true, Bool.or_eq_true, Bool.and_eq_true, beq_iff_eq, decide_eq_true_eq]
      omega
  · have e : (a.Name.toList != b.Name.toList) = true := by rw [bne_iff_ne]; exact h1
    rw [e]
    simp [h1]
theorem bl_asym {a b : List UInt8} (h : Op.bytesLess a b = true) : Op.bytesLess b a = false := by
  cases h2 : Op.bytesLess b a
  · rfl
  · have := bl_trans _ _ _ h h2
    rw [bl_irr] at this; cases this
theorem lsC_trans {a b c : GChunk} (h1 : lsC a b) (h2 : lsC b c) : lsC a c := by
  unfold lsC at *
  rcases h1 with h1 | ⟨e1, h1⟩
  · rcases h2 with h2 | ⟨e2, h2⟩
    · exact .inl (bl_trans _ _ _ h1 h2)
    · rw [e2] at h1; exact .inl h1
  · rcases h2 with h2 | ⟨e2, h2⟩
    · rw [← e1] at h2; exact .inl h2
    · exact .inr ⟨e1.trans e2, by omega⟩
theorem lsC_not {a b : GChunk} (h1 : ¬ lsC a b) (h2 : ¬ lsC b a) : eq4 a b := by
  unfold lsC eq4 at *
  by_cases e : a.Name.toList = b.Name.toList
  · have h1 : ¬ (a.Ver_Epoch < b.Ver_Epoch ∨ (a.Ver_Epoch = b.Ver_Epoch ∧ (a.Ver_Seq < b.Ver_Seq ∨ (a.Ver_Seq = b.Ver_Seq ∧ a.Pos < b.Pos)))) := fun h => h1 (.inr ⟨e, h⟩)
    have h2 : ¬ (b.Ver_Epoch < a.Ver_Epoch ∨ (b.Ver_Epoch = a.Ver_Epoch ∧ (b.Ver_Seq < a.Ver_Seq ∨ (b.Ver_Seq = a.Ver_Seq ∧ b.Pos < a.Pos)))) := fun h => h2 (.inr ⟨e.symm, h⟩)
    exact ⟨e, by omega, by omega, by omega⟩
  · cases hl : Op.bytesLess a.Name.toList b.Name.toList
    · exact absurd (.inl (bl_tri _ _ hl e)) h2
    · exact absurd (.inl hl) h1
theorem lsC_irr4 {a b : GChunk} (h : eq4 a b) : ¬ lsC a b := by
  unfold lsC eq4 at *
  obtain ⟨h1, h2, h3, h4⟩ := h
  rw [h1, bl_irr]
  simp only [Bool.false_eq_true, false_or, true_and]
  omega
theorem cmpC_zero (a b : GChunk) : cmpC a b = 0 ↔ eq4 a b := by
  unfold cmpC eq4
  rw [orL]
  by_cases h1 : cmpN a.Name b.Name = 0
  · rw [if_pos h1, orL]
    have e1 := (cmpN_zero _ _).1 h1
    by_cases h2 : cmpV a.Ver_Epoch a.Ver_Seq b.Ver_Epoch b.Ver_Seq = 0
    · obtain ⟨e2, e3⟩ := (cmpV_zero _ _ _ _).1 h2
      rw [if_pos h2, orL, orL]
      unfold cmpI
      by_cases h3 : a.Pos < b.Pos
      · simp [h3]; intro _ _ _; omega
      · by_cases h4 : b.Pos < a.Pos
        · simp [h3, h4]; intro _ _ _; omega
        · simp [h3, h4]; exact ⟨e1, e2, e3, by omega⟩
    · rw [if_neg h2]
      exact ⟨fun h => absurd h h2, fun h => absurd ((cmpV_zero _ _ _ _).2 ⟨h.2.1, h.2.2.1⟩) h2⟩
  · rw [if_neg h1]
    exact ⟨fun h => absurd h h1, fun h => absurd ((cmpN_zero _ _).2 h.1) h1⟩
theorem cmpC_neg (a b : GChunk) : decide (cmpC a b < 0) = lessC a b := by
  have := cmpC_lt a b
  cases h : lessC a b <;> rw [h] at this <;> simp at this ⊢ <;> omega
/-- Where it stands or would stand. -/
def posC (cs : List GChunk) (x : GChunk) : Nat := cs.findIdx fun y => !lessC y x
def fdC (cs : List GChunk) (x : GChunk) : Bool := match cs[posC cs x]? with
  | some y => !lessC x y
  | none => false
theorem posC_le (cs : List GChunk) (x : GChunk) : posC cs x ≤ cs.length := List.findIdx_le_length
theorem posC_eq {cs : List GChunk} {x : GChunk} {i : Nat} (hi : i ≤ cs.length) (hl : ∀ j (hj : j < cs.length), j < i → lessC cs[j] x = true) (hr : ∀ h : i < cs.length, lessC cs[i] x = false) : posC cs x = i := by
  unfold posC
  by_cases h : i < cs.length
  · rw [List.findIdx_eq h]
    exact ⟨by simp [hr h], fun j hj => by simp [hl j (by omega) hj]⟩
  · have : i = cs.length := by omega
    subst this
    rw [List.findIdx_eq_length]
    intro y hy
    obtain ⟨j, hj, rfl⟩ := List.getElem_of_mem hy
    simp [hl j hj hj]
theorem fdC_at {cs : List GChunk} {x : GChunk} {i : Nat} (hp : posC cs x = i) (h : i < cs.length) : fdC cs x = !lessC x cs[i] := by
  unfold fdC
  rw [hp, List.getElem?_eq_getElem h]
theorem fdC_end {cs : List GChunk} {x : GChunk} (hp : posC cs x = cs.length) : fdC cs x = false := by
  unfold fdC
  rw [hp, List.getElem?_eq_none (Nat.le_refl _)]
/-- In order. -/
def SrtC (cs : List GChunk) : Prop := ∀ i j (hi : i < cs.length) (hj : j < cs.length), i < j → lsC cs[i] cs[j]
theorem srtC_of {cs : List GChunk} (h : chksB cs = true) : SrtC cs := by
  unfold chksB at h
  simp only [Bool.and_eq_true] at h
  have h1 := range_all.1 h.1
  have step : ∀ i (hi : i + 1 < cs.length), lsC (cs[i]'(by omega)) cs[i + 1] := fun i hi => by
    have := h1 (i + 1) hi
    rw [okC_succ hi (by omega)] at this
    simp only [Bool.and_eq_true] at this
    exact (lessC_iff _ _).1 this.2
  have far : ∀ d i (hi : i + d + 1 < cs.length), lsC (cs[i]'(by omega)) cs[i + d + 1] := fun d => by
    induction d with
    | zero => exact fun i hi => step i hi
    | succ d ih =>
      intro i hi
      exact lsC_trans (ih i (by omega)) (step (i + d + 1) hi)
  intro i j hi hj hij
  have := far (j - i - 1) i (by omega)
  have e : i + (j - i - 1) + 1 = j := by omega
  simpa only [e] using this
set_option maxRecDepth 100000 in
set_option maxHeartbeats 64000000 in
theorem l17At (k : Nat) (cs : List GChunk) (x : GChunk) (hn : cs.length ≤ 1048576) : call code (k + 5) 87 [.rd true (rws GChunk.enc cs), .agg (GChunk.enc x)] [] = some ⟨.tup [.int .i64 (posC cs x), .bool (fdC cs x)], [], []⟩ := by
  refine call_run rfl fn87 rfl ?_
  have hrl := rws_len (enc := GChunk.enc) cs
  have hgx : ∀ i (hi : i < cs.length) (hh : i < (rws GChunk.enc cs).length), (rws GChunk.enc cs)[i]'hh = GChunk.enc cs[i] := fun i hi hh => rws_get ..
  have h1 := fun k i (hi : i < cs.length) => chunkLess k cs[i] x
  have h2 := fun k i (hi : i < cs.length) => chunkLess k x cs[i]
  simp only [GChunk.enc] at hgx h1 h2 ⊢
  generalize rws (fun x => GChunk.enc x) cs = R at *
  simp [F87]
  refine RunC_loop (fun i : Nat => ⟨tm 35 [(0, .rd true R), (3, .ptr 0 0 0 [] 0 0), (6, .int .i64 i)], [(0, some ⟨0, 6, true, false, [[.str x.Name, .int .i64 x.Ver_Epoch, .int .i64 x.Ver_Seq, .int .i64 x.Pos, .int .i64 x.Sum, .str x.Bytes]]⟩)], []⟩)
    (fun i => i ≤ cs.length ∧ ∀ j (hj : j < cs.length), j < i → lessC cs[j] x = true) (fun i => cs.length - i) 0 ⟨Nat.zero_le _, fun j _ h => by omega⟩ (by simp; omega) (by simp [tm]) fun i hi _ => ?_
  obtain ⟨hi, hl⟩ := hi
  by_cases hlt : i < cs.length
  · have hs := idx_succ' hlt (by omega)
    have hg := hgx i hlt
    have h1 := fun k => h1 k i hlt
    have h2 := fun k => h2 k i hlt
    cases c1 : lessC cs[i] x
    · rw [c1] at h1
      have hp := posC_eq hi hl fun _ => c1
      have hf := fdC_at hp hlt
      simp [tm, hlt, hrl, hg, hs, rcall160, h1, h2, hp, hf]
    · rw [c1] at h1
      simp [tm, hlt, hrl, hg, hs, rcall160, h1]
      refine ⟨i + 1, ⟨by omega, fun j hj hji => ?_⟩, by omega, by simp⟩
      rcases Nat.lt_succ_iff_lt_or_eq.1 hji with h | rfl
      · exact hl j hj h
      · exact c1
  · have : i = cs.length := by omega
    subst this
    have hp := posC_eq hi hl fun h => absurd h (Nat.lt_irrefl _)
    have hf := fdC_end hp
    simp [tm, hrl, hp, hf]
end Go.Ae.GA.B
namespace Go.Ae.GA.B
set_option linter.unusedSimpArgs false
set_option linter.unusedVariables false
set_option maxRecDepth 100000 in
set_option maxHeartbeats 64000000 in
theorem binSearch (k : Nat) (cs : List GChunk) (x : GChunk) (hn : cs.length ≤ 1048576) (hso : SrtC cs) : call code (k + 5) 170 [.rd true (rws GChunk.enc cs), .agg (GChunk.enc x), .fn 171 []] [] = some ⟨.tup [.int .i64 (posC cs x), .bool (fdC cs x)], [], []⟩ := by
  refine call_run rfl fn170 rfl ?_
  have hrl := rws_len (enc := GChunk.enc) cs
  have hgx : ∀ i (hi : i < cs.length) (hh : i < (rws GChunk.enc cs).length), (rws GChunk.enc cs)[i]'hh = GChunk.enc cs[i] := fun i hi hh => rws_get ..
  have h1 := fun k i (hi : i < cs.length) => compareChunks k cs[i] x
  have hmd : code.md 171 = .val := rfl
  simp only [GChunk.enc] at hgx h1 ⊢
  generalize rws (fun x => GChunk.enc x) cs = R at *
  simp [F170, hrl]
  refine RunC_loop (fun ij : Nat × Nat => ⟨tm 49 [(0, .rd true R), (2, .fn 171 []), (4, .ptr 0 0 0 [] 0 0), (8, .int .i64 cs.length), (9, .int .i64 ij.1), (10, .int .i64 ij.2)], [(0, some ⟨0, 6, true, false, [[.str x.Name, .int .i64 x.Ver_Epoch, .int .i64 x.Ver_Seq, .int .i64 x.Pos, .int .i64 x.Sum, .str x.Bytes]]⟩)], []⟩)
    (fun ij => ij.1 ≤ ij.2 ∧ ij.2 ≤ cs.length ∧ (∀ j (hj : j < cs.length), j < ij.1 → lessC cs[j] x = true) ∧ ∀ j (hj : j < cs.length), ij.2 ≤ j → lessC cs[j] x = false) (fun ij => ij.2 - ij.1) (0, cs.length) ⟨Nat.zero_le _, Nat.le_refl _, fun j _ h => by simp at h, fun j hj h => by simp at h; omega⟩ (by simp; omega) (by simp [tm]) fun ij hi _ => ?_
  obtain ⟨i, j⟩ := ij
  simp only at hi
  obtain ⟨hij, hjn, hl, hr⟩ := hi
  by_cases hlt : i < j
  · have w1 : IntKind.wrap .i64 ((i : Int) + j) = ((i + j : Nat) : Int) := by rw [wrap64 ⟨by omega, by omega⟩] <;> omega
    have w2 : IntKind.wrap .u64 ((i + j : Nat) : Int) = ((i + j : Nat) : Int) := by simp [IntKind.wrap, IntKind.bits, IntKind.signed]; omega
    have w3 : gShr .u64 ((i + j : Nat) : Int) 1 = (((i + j) / 2 : Nat) : Int) := by
      unfold gShr
      rw [show Nat.min (1 : Int).toNat IntKind.u64.bits = 1 from rfl, Int.fdiv_eq_ediv_of_nonneg _ (by decide)]
      rfl
    have w4 : IntKind.wrap .i64 (((i + j) / 2 : Nat) : Int) = (((i + j) / 2 : Nat) : Int) := by rw [wrap64 ⟨by omega, by omega⟩]
    have hh : (i + j) / 2 < cs.length := by omega
    have hs := idx_succ' hh (by omega)
    have hg := hgx _ hh
    have h1 := fun k => h1 k _ hh
    have hc := cmpC_neg cs[(i + j) / 2] x
    have hi1 : i ≤ (i + j) / 2 := by omega
    have hj1 : (i + j) / 2 < j := by omega
    generalize (i + j) / 2 = h at *
    simp only [Int.natCast_add] at w1 w2 w3
    generalize cmpC cs[h] x = v at *
    cases c1 : lessC cs[h] x
    · rw [c1] at hc
      have hv : ¬ v < 0 := by simpa using hc
      simp [tm, hlt, hrl, hg, hs, w1, w2, w3, w4, hh, evalW_callv, hmd, h1, hv]
      refine ⟨i, h, ⟨by omega, by omega, hl, fun q hq hb => ?_⟩, by omega, rfl, rfl⟩
      rcases Nat.lt_or_eq_of_le hb with hb | rfl
      · cases c2 : lessC cs[q] x
        · rfl
        · have := (lessC_iff _ _).2 (lsC_trans (hso h q hh hq hb) ((lessC_iff _ _).1 c2))
          rw [c1] at this; cases this
      · exact c1
    · rw [c1] at hc
      have hv : v < 0 := by simpa using hc
      simp [tm, hlt, hrl, hg, hs, w1, w2, w3, w4, hh, evalW_callv, hmd, h1, hv]
      refine ⟨h + 1, j, ⟨by omega, by omega, fun q hq hb => ?_, hr⟩, by omega, by simp, rfl⟩
      rcases Nat.lt_succ_iff_lt_or_eq.1 hb with hb | rfl
      · exact (lessC_iff _ _).2 (lsC_trans (hso q h hq hh hb) ((lessC_iff _ _).1 c1))
      · exact c1
  · have : i = j := by omega
    subst this
    by_cases hin : i < cs.length
    · have hg := hgx _ hin
      have h1 := fun k => h1 k _ hin
      have hp := posC_eq hjn hl fun h => hr i h (Nat.le_refl _)
      have hf := fdC_at hp hin
      have h0 := hr i hin (Nat.le_refl _)
      have hz : (cmpC cs[i] x == 0) = fdC cs x := by
        rw [hf]
        have hnl : ¬ lsC cs[i] x := fun h => by rw [(lessC_iff _ _).2 h] at h0; cases h0
        cases hc : lessC x cs[i]
        · have : ¬ lsC x cs[i] := fun h => by rw [(lessC_iff _ _).2 h] at hc; cases hc
          simp [(cmpC_zero _ _).2 (lsC_not hnl this)]
        · have : cmpC cs[i] x ≠ 0 := fun h => by
            have e := (cmpC_zero _ _).1 h
            have e2 : eq4 x cs[i] := ⟨e.1.symm, e.2.1.symm, e.2.2.1.symm, e.2.2.2.symm⟩
            exact lsC_irr4 e2 ((lessC_iff _ _).1 hc)
          simp [this]
      simp [tm, hrl, hg, hin, evalW_callv, hmd, h1, hz, hp]
    · have : i = cs.length := by omega
      subst this
      have hp := posC_eq hjn hl fun h => absurd h (Nat.lt_irrefl _)
      have hf := fdC_end hp
      simp [tm, hrl, hp, hf]
end Go.Ae.GA.B
namespace Go.Ae.GA.B
set_option linter.unusedSimpArgs false
set_option linter.unusedVariables false
theorem wsum_mem {α : Type} {w : α → Nat} {l : List α} {x : α} (h : x ∈ l) : w x ≤ wsum w l := by
  induction l with
  | nil => cases h
  | cons a r ih =>
    unfold wsum at *
    rw [List.map_cons, List.sum_cons]
    rcases List.mem_cons.1 h with rfl | h
    · omega
    · have := ih h; omega
theorem h_names {hs : List GHead} {n : Nat} (h : wsum GHead.wt hs ≤ n) : ∀ c ∈ hs, c.Name.size ≤ n := fun c hc => Nat.le_trans (wsum_mem (w := GHead.wt) hc) h
theorem e_names {hs : List GEntry} {n : Nat} (h : wsum GEntry.wt hs ≤ n) : ∀ c ∈ hs, c.Name.size ≤ n := fun c hc => Nat.le_trans (wsum_mem (w := GEntry.wt) hc) h
theorem c_names {hs : List GChunk} {n : Nat} (h : wsum GChunk.wt hs ≤ n) : ∀ c ∈ hs, c.Name.size ≤ n := fun c hc => by
  have h1 := wsum_mem (w := GChunk.wt) hc
  have h2 : c.Name.size ≤ GChunk.wt c := by unfold GChunk.wt; omega
  omega
/-- Lengths that the sizes allow. -/
structure Few (hs : List GHead) (ls : List GLast) (es : List GEntry) (cs : List GChunk) : Prop where
  h : hs.length ≤ 1048576
  l : ls.length ≤ 1048576
  e : es.length ≤ 1048576
  c : cs.length ≤ 1048576
  hn : ∀ c ∈ hs, c.Name.size ≤ 1048576
  en : ∀ c ∈ es, c.Name.size ≤ 1048576
  cn : ∀ c ∈ cs, c.Name.size ≤ 1048576
theorem few_of {hs : List GHead} {ls : List GLast} {es : List GEntry} {cs : List GChunk} (h : (hs.length + wsum GHead.wt hs) + ls.length + (es.length + wsum GEntry.wt es) + (cs.length + wsum GChunk.wt cs) ≤ 1048576) : Few hs ls es cs :=
  ⟨by omega, by omega, by omega, by omega, h_names (by omega), e_names (by omega), c_names (by omega)⟩
theorem few_nil : Few [] [] [] [] := ⟨by simp, by simp, by simp, by simp, by simp, by simp, by simp⟩
end Go.Ae.GA.B
namespace Go.Ae.GA.B
set_option linter.unusedSimpArgs false
set_option linter.unusedVariables false
abbrev resPC (p0 p1 se st te ts : Int) (hs : List GHead) (ls : List GLast) (es : List GEntry) (fe fs : Int) (cs : List GChunk) (c : Int) : Res :=
  ⟨.tup [.agg [.int .i64 p0, .int .i64 p1, .int .i64 se, .int .i64 st, .int .i64 te, .int .i64 ts, .sl 0 0 0 [] 0 hs.length, .sl 0 1 0 [] 0 ls.length, .sl 0 2 0 [] 0 es.length, .int .i64 fe, .int .i64 fs, .sl 0 3 0 [] 0 cs.length], .int .i64 c],
   [⟨0, 5, false, true, rws GHead.enc hs⟩, ⟨0, 4, false, true, rws GLast.enc ls⟩, ⟨0, 10, false, true, rws GEntry.enc es⟩, ⟨0, 6, false, true, rws GChunk.enc cs⟩], []⟩
def zeroPC (c : Int) : Res := resPC 0 0 0 0 0 0 [] [] [] 0 0 [] c
theorem rcallIns {O : Oracle} {st : St} {Q : Ex → St → Prop} {fs : List Fr} {d : Option Nat} {b i : Nat} {ap : List X} {r : List IOp} (xs : List X) (fl : Bool) : RunO O code.md (⟨d, .call 162 xs fl, none, b, i, ap⟩ :: r) fs st Q = ((apartOk st (.call 162 xs fl) ap && keyedOk st ap) = true ∧ RunK O code.md (callRef O st b 162 (evalXs st xs) fl) st (.call 162 xs fl) ap d r fs Q) := R_callr 162 xs fl rfl
/-- What is searched for. -/
def keyC (x : GChunk) : GChunk := ⟨x.Name, x.Ver_Epoch, x.Ver_Seq, x.Pos, 0, ByteArray.empty⟩
theorem posC_key (cs : List GChunk) (x : GChunk) : posC cs (keyC x) = posC cs x := rfl
theorem fdC_key (cs : List GChunk) (x : GChunk) : fdC cs (keyC x) = fdC cs x := rfl
def putC (cs : List GChunk) (x : GChunk) : List GChunk := cs.take (posC cs x) ++ [x] ++ cs.drop (if fdC cs x then posC cs x + 1 else posC cs x)
theorem fdC_lt {cs : List GChunk} {x : GChunk} (h : fdC cs x = true) : posC cs x < cs.length := by
  unfold fdC at h
  split at h
  · rename_i y hy
    exact (List.getElem?_eq_some_iff.1 hy).1
  · cases h
theorem putC_set {cs : List GChunk} {x : GChunk} (h : fdC cs x = true) : cs.set (posC cs x) x = putC cs x := by
  have hl := fdC_lt h
  unfold putC
  rw [h, List.set_eq_take_append_cons_drop, if_pos hl]
  simp
theorem putC_len (cs : List GChunk) (x : GChunk) : (putC cs x).length = if fdC cs x then cs.length else cs.length + 1 := by
  have hp := posC_le cs x
  unfold putC
  cases h : fdC cs x
  · simp; omega
  · have := fdC_lt h
    simp; omega
set_option maxRecDepth 100000 in
set_option maxHeartbeats 64000000 in
theorem chunkAt (k : Nat) (p0 p1 se st te ts : Int) (hs : List GHead) (ls : List GLast) (es : List GEntry) (fe fs : Int) (cs : List GChunk) (x : GChunk) (b4 : cs.length ≤ 1048576) (hso : SrtC cs) :
    call code (k + 6) 95 [psV p0 p1 se st te ts hs ls es fe fs cs, .str x.Name, .agg [.int .i64 x.Ver_Epoch, .int .i64 x.Ver_Seq], .int .i64 x.Pos] [] = some ⟨.tup [.int .i64 (posC cs x), .bool (fdC cs x)], [], []⟩ := by
  refine call_run rfl fn95 rfl ?_
  have hb := fun k => binSearch k cs (keyC x) b4 hso
  simp only [posC_key, fdC_key] at hb
  unfold psV at *
  generalize rws GHead.enc hs = R1 at *
  generalize rws GLast.enc ls = R2 at *
  generalize rws GEntry.enc es = R3 at *
  generalize rws GChunk.enc cs = R4 at *
  simp only [GChunk.enc, keyC] at hb
  simp [F95, rcall170, hb]
set_option maxHeartbeats 4000000 in
theorem insCall (k : Nat) (S T : Nat) (E : List Heap) (xs : List (List AV)) (y : List AV) (n p : Nat) (hn : xs.length = n) (hp : p ≤ n) (hb : n ≤ 1048576) (hE : 0 < E.length) (hS : (hat E 0).get S = some (some ⟨0, 6, false, true, xs⟩)) (hT : (hat E 0).get T = some (some ⟨0, 6, false, true, [y]⟩)) (hST : S ≠ T) :
    call code (k + 1) 162 [.sl 1 S 0 [] 0 n, .int .i64 p, .sl 1 T 0 [] 0 1] E = some ⟨.sl 1 S 1 [] 0 (n + 1), [], E.modify 0 fun h => h.set S (some ⟨1, 6, false, true, xs.take p ++ y :: xs.drop p⟩)⟩ := by
  refine natR162 k _ E _ ?_
  subst hn
  have h1 : (xs.length + 1) * 64 ≤ 140737488355328 ∧ xs.length + 1 ≤ 140737488355328 := by omega
  have hp' : (p : Int) ≤ xs.length := by omega
  simp [GB.natRInsC, natIns, blk_succ, put_succ, hS, hT, hST, hp, hp', h1, hE]
set_option maxRecDepth 100000 in
set_option maxHeartbeats 64000000 in
theorem putting (k : Nat) (p0 p1 se st te ts : Int) (hs : List GHead) (ls : List GLast) (es : List GEntry) (fe fs : Int) (cs : List GChunk) (x : GChunk) (b1 : hs.length ≤ 1048576) (b2 : ls.length ≤ 1048576) (b3 : es.length ≤ 1048576) (b4 : cs.length ≤ 1048576) (hso : SrtC cs) (f o : Bool) (hf : fdC cs x = f) (ho : decide ((160 : Int) ≤ cs.length) = o) :
    call code (k + 7) 89 [psV p0 p1 se st te ts hs ls es fe fs cs, .agg (GChunk.enc x)] [] = some (if !f && o then zeroPC 4 else resPC p0 p1 se st te ts hs ls es fe fs (putC cs x) 0) := by
  refine call_run rfl fn89 rfl ?_
  have hb := fun k => chunkAt k p0 p1 se st te ts hs ls es fe fs cs x b4 hso
  have hc := fun k => clone k p0 p1 se st te ts hs ls es fe fs cs b1 b2 b3 b4
  rw [hf] at hb
  have hp := posC_le cs x
  have l1 := rws_len (enc := GHead.enc) hs
  have l2 := rws_len (enc := GLast.enc) ls
  have l3 := rws_len (enc := GEntry.enc) es
  have l4 := rws_len (enc := GChunk.enc) cs
  have l5 := rws_len (enc := GChunk.enc) (putC cs x)
  have k1 := tkE (enc := GHead.enc) (l := hs) rfl
  have k2 := tkE (enc := GLast.enc) (l := ls) rfl
  have k3 := tkE (enc := GEntry.enc) (l := es) rfl
  have k4 := tkE (enc := GChunk.enc) (l := cs) rfl
  have k5 := tkE (enc := GChunk.enc) (l := putC cs x) rfl
  have n1 : rws GHead.enc [] = [] := rfl
  have n2 : rws GLast.enc [] = [] := rfl
  have n3 : rws GEntry.enc [] = [] := rfl
  have n4 : rws GChunk.enc [] = [] := rfl
  have hpl := putC_len cs x
  rw [hf] at hpl
  have hset : f = true → (rws GChunk.enc cs).set (posC cs x) (GChunk.enc x) = rws GChunk.enc (putC cs x) := fun h => by
    rw [rws_set, putC_set (by rw [hf, h])]
  have hins : f = false → (rws GChunk.enc cs).take (posC cs x) ++ GChunk.enc x :: (rws GChunk.enc cs).drop (posC cs x) = rws GChunk.enc (putC cs x) := fun h => by
    unfold putC rws
    rw [hf, h]
    simp
  have hlt : f = true → posC cs x < cs.length := fun h => fdC_lt (by rw [hf, h])
  have hgl : ∀ h : posC cs x < (rws GChunk.enc cs).length, ((rws GChunk.enc cs)[posC cs x]'h).length = 6 := fun h => by simp [rws, GChunk.enc]
  have hgd : ∀ h : posC cs x < (rws GChunk.enc cs).length, ((rws GChunk.enc cs)[posC cs x]'h).drop 6 = [] := fun h => List.drop_eq_nil_of_le (by rw [hgl h]; exact Nat.le_refl _)
  have hi := fun k S T E h1 h2 h3 h4 => insCall k S T E (rws GChunk.enc cs) (GChunk.enc x) cs.length (posC cs x) l4 hp b4 h1 h2 h3 h4
  unfold zeroPC
  unfold psV resPS resPC at *
  rw [n1, n2, n3, n4]
  simp only [GChunk.enc] at *
  generalize rws GHead.enc hs = R1 at *
  generalize rws GLast.enc ls = R2 at *
  generalize rws GEntry.enc es = R3 at *
  generalize rws (fun x => GChunk.enc x) cs = R4 at *
  generalize rws (fun x => GChunk.enc x) (putC cs x) = R5 at *
  generalize (putC cs x).length = m at *
  generalize posC cs x = p at *
  cases f
  · cases o
    · simp only [Bool.false_eq_true, if_false] at hpl
      subst hpl
      have hins := hins rfl
      simp [F89, rcall95, rcall147, rcallIns, hb, hc, ho, storeM, hi, hins, blk_succ, heap_succ, put_succ, l1, l2, l3, l4, l5, k1, k2, k3, k4, k5]
    · simp [F89, rcall95, rcall147, rcallIns, hb, hc, ho, storeM, l1, l2, l3, l4, k1, k2, k3, k4]
  · simp only [if_true] at hpl
    subst hpl
    have hset := hset rfl
    have hlt := hlt rfl
    simp [F89, rcall95, rcall147, rcallIns, hb, hc, ho, storeM, evalW, source, l1, l2, l3, l4, l5, k1, k2, k3, k4, k5, hlt, hset, hgl, hgd]
end Go.Ae.GA.B
namespace Go.Ae.GA.B
set_option linter.unusedSimpArgs false
set_option linter.unusedVariables false
set_option maxRecDepth 100000 in
set_option maxHeartbeats 64000000 in
theorem putChunkI (k : Nat) (p0 p1 se st te ts : Int) (hs : List GHead) (ls : List GLast) (es : List GEntry) (fe fs : Int) (cs : List GChunk) (x : GChunk) (g1 g2 : Bool)
    (o1 : ∀ k, call code (k + 7) 66 [psV p0 p1 se st te ts hs ls es fe fs cs] [] = some ⟨.bool g1, [], []⟩) (o2 : ∀ k, call code (k + 5) 88 [.agg (GChunk.enc x)] [] = some ⟨.bool g2, [], []⟩)
    (q0 q1 q2 q3 q4 q5 : Int) (rh : List GHead) (rl : List GLast) (re : List GEntry) (q9 q10 : Int) (rc : List GChunk) (c : Int)
    (ha : g1 = true → g2 = true → ∀ k, call code (k + 7) 89 [psV p0 p1 se st te ts hs ls es fe fs cs, .agg (GChunk.enc x)] [] = some (resPC q0 q1 q2 q3 q4 q5 rh rl re q9 q10 rc c)) :
    call code (k + 8) 25 [psV p0 p1 se st te ts hs ls es fe fs cs, .agg (GChunk.enc x)] [] = some (if g1 && g2 then resPC q0 q1 q2 q3 q4 q5 rh rl re q9 q10 rc c else zeroPC 1) := by
  refine call_run rfl fn25 rfl ?_
  have n1 : rws GHead.enc [] = [] := rfl
  have n2 : rws GLast.enc [] = [] := rfl
  have n3 : rws GEntry.enc [] = [] := rfl
  have n4 : rws GChunk.enc [] = [] := rfl
  have l1 := rws_len (enc := GHead.enc) rh
  have l2 := rws_len (enc := GLast.enc) rl
  have l3 := rws_len (enc := GEntry.enc) re
  have l4 := rws_len (enc := GChunk.enc) rc
  have k1 := tkE (enc := GHead.enc) (l := rh) rfl
  have k2 := tkE (enc := GLast.enc) (l := rl) rfl
  have k3 := tkE (enc := GEntry.enc) (l := re) rfl
  have k4 := tkE (enc := GChunk.enc) (l := rc) rfl
  unfold zeroPC
  unfold psV resPC at *
  rw [n1, n2, n3, n4]
  generalize rws GHead.enc rh = R1 at *
  generalize rws GLast.enc rl = R2 at *
  generalize rws GEntry.enc re = R3 at *
  generalize rws GChunk.enc rc = R4 at *
  generalize rws GHead.enc hs = T1 at *
  generalize rws GLast.enc ls = T2 at *
  generalize rws GEntry.enc es = T3 at *
  generalize rws GChunk.enc cs = T4 at *
  simp only [GChunk.enc] at *
  cases g1
  · simp [F25, rcall66, o1, storeM]
  cases g2
  · simp [F25, rcall66, rcall88, o1, o2, storeM]
  have ha := ha rfl rfl
  simp [F25, rcall66, rcall88, rcall89, o1, o2, ha, storeM, l1, l2, l3, l4, k1, k2, k3, k4]
set_option maxRecDepth 100000 in
set_option maxHeartbeats 64000000 in
theorem putChunkS (k : Nat) (p0 p1 se st te ts : Int) (hs : List GHead) (ls : List GLast) (es : List GEntry) (fe fs : Int) (cs : List GChunk) (x : GChunk) (b1 : hs.length ≤ 1048576) (b2 : ls.length ≤ 1048576) (b3 : es.length ≤ 1048576) (b4 : cs.length ≤ 1048576) (g1 g2 : Bool) (f o : Bool) (hf : fdC cs x = f) (ho : decide ((160 : Int) ≤ cs.length) = o)
    (o1 : ∀ k, call code (k + 7) 29 [psV p0 p1 se st te ts hs ls es fe fs cs] [] = some ⟨.bool g1, [], []⟩) (o2 : ∀ k, call code (k + 5) 86 [.agg (GChunk.enc x)] [] = some ⟨.bool g2, [], []⟩) :
    call code (k + 8) 23 [psV p0 p1 se st te ts hs ls es fe fs cs, .agg (GChunk.enc x)] [] = some (if g1 && g2 then (if !f && o then zeroPC 4 else resPC p0 p1 se st te ts hs ls es fe fs (putC cs x) 0) else zeroPC 1) := by
  refine call_run rfl fn23 rfl ?_
  have hc := fun k => l17Copy k p0 p1 se st te ts hs ls es fe fs cs b1 b2 b3 b4
  have hb := fun k => l17At k cs x b4
  rw [hf] at hb
  have hp := posC_le cs x
  have l1 := rws_len (enc := GHead.enc) hs
  have l2 := rws_len (enc := GLast.enc) ls
  have l3 := rws_len (enc := GEntry.enc) es
  have l4 := rws_len (enc := GChunk.enc) cs
  have l5 := rws_len (enc := GChunk.enc) (putC cs x)
  have k1 := tkE (enc := GHead.enc) (l := hs) rfl
  have k2 := tkE (enc := GLast.enc) (l := ls) rfl
  have k3 := tkE (enc := GEntry.enc) (l := es) rfl
  have k4 := tkE (enc := GChunk.enc) (l := cs) rfl
  have k5 := tkE (enc := GChunk.enc) (l := putC cs x) rfl
  have n1 : rws GHead.enc [] = [] := rfl
  have n2 : rws GLast.enc [] = [] := rfl
  have n3 : rws GEntry.enc [] = [] := rfl
  have n4 : rws GChunk.enc [] = [] := rfl
  have hpl := putC_len cs x
  rw [hf] at hpl
  have hins : (rws GChunk.enc cs).take (posC cs x) ++ GChunk.enc x :: (rws GChunk.enc cs).drop (if f then posC cs x + 1 else posC cs x) = rws GChunk.enc (putC cs x) := by
    unfold putC rws
    rw [hf]
    simp
  have hlt : f = true → posC cs x < cs.length := fun h => fdC_lt (by rw [hf, h])
  have hrow : ∀ y ∈ rws GChunk.enc cs, y.length = 6 := rowsL (enc := GChunk.enc) (n := 6) (fun _ => rfl) cs
  have hrow1 : ∀ y ∈ (rws GChunk.enc cs).take (posC cs x), y.length = 6 := fun y hy => hrow y (List.mem_of_mem_take hy)
  have hrow2 : ∀ n, ∀ y ∈ (rws GChunk.enc cs).drop n, y.length = 6 := fun n y hy => hrow y (List.mem_of_mem_drop hy)
  unfold zeroPC
  unfold psV resPS resPC at *
  rw [n1, n2, n3, n4]
  simp only [GChunk.enc] at *
  generalize rws GHead.enc hs = R1 at *
  generalize rws GLast.enc ls = R2 at *
  generalize rws GEntry.enc es = R3 at *
  generalize rws (fun x => GChunk.enc x) cs = R4 at *
  generalize rws (fun x => GChunk.enc x) (putC cs x) = R5 at *
  generalize (putC cs x).length = m at *
  generalize posC cs x = p at *
  have t0 := eq_true hrow
  have t1 := eq_true hrow1
  have t2 := fun n => eq_true (hrow2 n)
  cases g1
  · simp [F23, rcall29, o1, storeM]
  cases g2
  · simp [F23, rcall29, rcall86, o1, o2, storeM]
  cases f
  · cases o
    · simp only [Bool.false_eq_true, if_false] at hpl hins
      subst hpl
      simp [F23, rcall29, rcall86, rcall87, rcall59, o1, o2, hb, hc, ho, storeM, evalW, source, hins, hp, t0, t1, t2, l1, l2, l3, l4, l5, k1, k2, k3, k4, k5]
      omega
    · simp [F23, rcall29, rcall86, rcall87, o1, o2, hb, hc, ho, storeM, l1, l2, l3, l4, k1, k2, k3, k4]
  · simp only [if_true] at hpl hins
    subst hpl
    have hlt := hlt rfl
    have hlt' : (0 ≤ (p : Int) + 1 ∧ (p : Int) + 1 ≤ cs.length) = True := eq_true (by omega)
    have hw : IntKind.wrap .i64 ((p : Int) + 1) = (p : Int) + 1 := by rw [wrap64 ⟨by omega, by omega⟩]
    simp [F23, rcall29, rcall86, rcall87, rcall59, o1, o2, hb, hc, ho, hw, hlt, hlt', storeM, evalW, source, hins, hp, t0, t1, t2, l1, l2, l3, l4, l5, k1, k2, k3, k4, k5]
    omega
end Go.Ae.GA.B
namespace Go.Ae.GA.B
set_option linter.unusedSimpArgs false
set_option linter.unusedVariables false
theorem chksB_of (p0 p1 se st te ts : Int) (hs : List GHead) (ls : List GLast) (es : List GEntry) (fe fs : Int) (cs : List GChunk) (h : stateB p0 p1 se st te ts hs ls es fe fs cs = true) : chksB cs = true := by
  unfold stateB at h
  simp only [Bool.and_eq_true] at h
  exact h.2.2.2.2.2.2.2.2
theorem putChunkss (p0 p1 se st te ts : Int) (hs : List GHead) (ls : List GLast) (es : List GEntry) (fe fs : Int) (cs : List GChunk) (x : GChunk) (d : Few hs ls es cs) (hx : x.Name.size ≤ 1048576) :
    ∃ r0 r1 r2 r3 r4 r5 rh rl re r9 r10 rc c, (∀ k, call code (k + 8) 25 [psV p0 p1 se st te ts hs ls es fe fs cs, .agg (GChunk.enc x)] [] = some (resPC r0 r1 r2 r3 r4 r5 rh rl re r9 r10 rc c)) ∧
      (∀ k, call code (k + 8) 23 [psV p0 p1 se st te ts hs ls es fe fs cs, .agg (GChunk.enc x)] [] = some (resPC r0 r1 r2 r3 r4 r5 rh rl re r9 r10 rc c)) ∧ Few rh rl re rc := by
  have i1 := fun k => stateOk k p0 p1 se st te ts hs ls es fe fs cs d.h d.l d.e d.c d.hn d.en d.cn
  have s1 := fun k => stateOkS k p0 p1 se st te ts hs ls es fe fs cs d.h d.l d.e d.c d.hn d.en d.cn
  have i2 := fun k => chunkOk k x.Name x.Ver_Epoch x.Ver_Seq x.Pos x.Sum x.Bytes hx
  have s2 := fun k => chunkOkS k x.Name x.Ver_Epoch x.Ver_Seq x.Pos x.Sum x.Bytes hx
  have S := fun k => putChunkS k p0 p1 se st te ts hs ls es fe fs cs x d.h d.l d.e d.c _ _ _ _ rfl rfl s1 s2
  cases g1 : stateB p0 p1 se st te ts hs ls es fe fs cs
  · rw [g1] at i1 S
    have I := fun k => putChunkI k p0 p1 se st te ts hs ls es fe fs cs x _ _ i1 i2 0 0 0 0 0 0 [] [] [] 0 0 [] 1 (fun h => by cases h)
    simp only [Bool.false_and, Bool.false_eq_true, if_false] at I S
    exact ⟨_, _, _, _, _, _, _, _, _, _, _, _, _, I, S, few_nil⟩
  rw [g1] at i1 S
  have hso := srtC_of (chksB_of p0 p1 se st te ts hs ls es fe fs cs g1)
  have T := fun k => putting k p0 p1 se st te ts hs ls es fe fs cs x d.h d.l d.e d.c hso _ _ rfl rfl
  generalize chkB x.Name x.Ver_Epoch x.Ver_Seq x.Pos x.Sum x.Bytes = g2 at *
  cases g2
  · have I := fun k => putChunkI k p0 p1 se st te ts hs ls es fe fs cs x _ _ i1 i2 0 0 0 0 0 0 [] [] [] 0 0 [] 1 (fun _ h => by cases h)
    simp only [Bool.and_false, Bool.false_eq_true, if_false] at I S
    exact ⟨_, _, _, _, _, _, _, _, _, _, _, _, _, I, S, few_nil⟩
  simp only [Bool.and_self, if_true] at S
  cases hg : (!fdC cs x && decide ((160 : Int) ≤ cs.length))
  · rw [hg] at S T
    simp only [Bool.false_eq_true, if_false] at S T
    have I := fun k => putChunkI k p0 p1 se st te ts hs ls es fe fs cs x _ _ i1 i2 _ _ _ _ _ _ _ _ _ _ _ _ _ (fun _ _ => T)
    simp only [Bool.and_self, if_true] at I
    refine ⟨_, _, _, _, _, _, _, _, _, _, _, _, _, I, S, ⟨d.h, d.l, d.e, ?_, d.hn, d.en, fun c hc => ?_⟩⟩
    · rw [putC_len]
      have := d.c
      cases hf : fdC cs x
      · rw [hf] at hg
        simp at hg
        simp
        omega
      · simpa using this
    · unfold putC at hc
      rcases List.mem_append.1 hc with hc | hc
      · rcases List.mem_append.1 hc with hc | hc
        · exact d.cn c (List.mem_of_mem_take hc)
        · simp at hc; subst hc; exact hx
      · exact d.cn c (List.mem_of_mem_drop hc)
  · rw [hg] at S T
    simp only [if_true] at S T
    have I := fun k => putChunkI k p0 p1 se st te ts hs ls es fe fs cs x _ _ i1 i2 _ _ _ _ _ _ _ _ _ _ _ _ _ (fun _ _ => T)
    simp only [Bool.and_self, if_true] at I
    exact ⟨_, _, _, _, _, _, _, _, _, _, _, _, _, I, S, few_nil⟩
end Go.Ae.GA.B
namespace Go.Ae.GA.B
set_option linter.unusedSimpArgs false
set_option linter.unusedVariables false
set_option maxRecDepth 100000 in
set_option maxHeartbeats 200000000 in
theorem law5 (n : Nat) (a0 a1 a2 a3 a4 a5 : Int) (ah : List GHead) (al : List GLast) (ae : List GEntry) (a9 a10 : Int) (ac : List GChunk) (e : GChunk) (x1 : ah.length ≤ 140737488351232) (x2 : ∀ x ∈ ah, x.ok) (x3 : al.length ≤ 140737488351232) (x5 : ae.length ≤ 140737488351232) (x6 : ∀ x ∈ ae, x.ok) (x7 : ac.length ≤ 140737488351232) (x8 : ∀ x ∈ ac, x.ok) (y : e.ok) :
    call code (n + 12) 5 [psV a0 a1 a2 a3 a4 a5 ah al ae a9 a10 ac, .agg (GChunk.enc e)] [] = some ⟨.bool true, [], []⟩ := by
  refine call_run rfl fn5 rfl ?_
  have z1 := fun k => szPgState k 1048576 a0 a1 a2 a3 a4 a5 ah al ae a9 a10 ac (by omega) x1 x2 x3 x5 x6 x7 x8
  cases g1 : decide (szV 1048576 ((ah.length + wsum GHead.wt ah) + al.length + (ae.length + wsum GEntry.wt ae) + (ac.length + wsum GChunk.wt ac)) < 0)
  rotate_left
  · obtain ⟨_, e1⟩ := szV_neg g1 (by omega)
    rw [e1] at z1
    unfold psV
    simp only [GChunk.enc]
    simp [F5, rcall12, z1]
  obtain ⟨a1', e1⟩ := szV_pos g1 (by omega)
  rw [e1] at z1 g1
  have z2 := fun k => szChunk k (1048576 - ((((ah.length + wsum GHead.wt ah) + al.length + (ae.length + wsum GEntry.wt ae) + (ac.length + wsum GChunk.wt ac)) : Nat) : Int)) e (by omega) y
  have fa : Few ah al ae ac := few_of (by omega)
  generalize ((ah.length + wsum GHead.wt ah) + al.length + (ae.length + wsum GEntry.wt ae) + (ac.length + wsum GChunk.wt ac)) = wa at *
  cases g2 : decide (szV (1048576 - (wa : Int)) e.wt < 0)
  rotate_left
  · obtain ⟨_, e2⟩ := szV_neg g2 (by omega)
    rw [e2] at z2
    unfold psV
    simp only [GChunk.enc] at *
    simp [F5, rcall12, z1, g1, rcall22, z2]
  obtain ⟨a2', e2⟩ := szV_pos g2 (by omega)
  rw [e2] at z2 g2
  have fe : e.Name.size ≤ 1048576 := by have : e.Name.size ≤ e.wt := (by unfold GChunk.wt; omega); omega
  generalize e.wt = wb at *
  obtain ⟨r0, r1, r2, r3, r4, r5, rh, rl, re, r9, r10, rc, c, hi, hs, fr⟩ := putChunkss a0 a1 a2 a3 a4 a5 ah al ae a9 a10 ac e fa fe
  have bA1 := fa.h
  have bA2 := fa.l
  have bA3 := fa.e
  have bA4 := fa.c
  have tA := fun k => toPgState k a0 a1 a2 a3 a4 a5 ah al ae a9 a10 ac (by omega) (by omega) (by omega) (by omega)
  have eA := fun k => eqPgState k a0 a1 a2 a3 a4 a5 ah al ae a9 a10 ac (by omega) (by omega) (by omega) (by omega)
  have mA := fun k lv E S1 S2 S3 S4 hlv ga gb gc gd n1 n2 n3 n4 n5 n6 => markPgState k lv E a0 a1 a2 a3 a4 a5 ah al ae a9 a10 ac S1 S2 S3 S4 1 (by omega) hlv (by omega) (by omega) (by omega) (by omega) ga gb gc gd n1 n2 n3 n4 n5 n6
  have kAh := tkE (enc := GHead.enc) (l := ah) rfl
  have lAh := rws_len (enc := GHead.enc) ah
  have pAh := fun (c : Int) (l : Heap) (S : Nat) (hh : l.set S (some ⟨0, 5, false, true, rws GHead.enc ah⟩) = l) => hpm_all (enc := GHead.enc) (sz := 5) (mk := GHead.mkAt) (l := l) (S := S) (c := c) (ws := ah) hh
  have kAl := tkE (enc := GLast.enc) (l := al) rfl
  have lAl := rws_len (enc := GLast.enc) al
  have pAl := fun (c : Int) (l : Heap) (S : Nat) (hh : l.set S (some ⟨0, 4, false, true, rws GLast.enc al⟩) = l) => hpm_all (enc := GLast.enc) (sz := 4) (mk := GLast.mkAt) (l := l) (S := S) (c := c) (ws := al) hh
  have kAe := tkE (enc := GEntry.enc) (l := ae) rfl
  have lAe := rws_len (enc := GEntry.enc) ae
  have pAe := fun (c : Int) (l : Heap) (S : Nat) (hh : l.set S (some ⟨0, 10, false, true, rws GEntry.enc ae⟩) = l) => hpm_all (enc := GEntry.enc) (sz := 10) (mk := GEntry.mkAt) (l := l) (S := S) (c := c) (ws := ae) hh
  have kAc := tkE (enc := GChunk.enc) (l := ac) rfl
  have lAc := rws_len (enc := GChunk.enc) ac
  have pAc := fun (c : Int) (l : Heap) (S : Nat) (hh : l.set S (some ⟨0, 6, false, true, rws GChunk.enc ac⟩) = l) => hpm_all (enc := GChunk.enc) (sz := 6) (mk := GChunk.mkAt) (l := l) (S := S) (c := c) (ws := ac) hh
  have bR1 := fr.h
  have bR2 := fr.l
  have bR3 := fr.e
  have bR4 := fr.c
  have eR := fun k => eqPgState k r0 r1 r2 r3 r4 r5 rh rl re r9 r10 rc (by omega) (by omega) (by omega) (by omega)
  have mR := fun k lv E S1 S2 S3 S4 hlv ga gb gc gd n1 n2 n3 n4 n5 n6 => markPgState k lv E r0 r1 r2 r3 r4 r5 rh rl re r9 r10 rc S1 S2 S3 S4 1 (by omega) hlv (by omega) (by omega) (by omega) (by omega) ga gb gc gd n1 n2 n3 n4 n5 n6
  have kRh := tkE (enc := GHead.enc) (l := rh) rfl
  have lRh := rws_len (enc := GHead.enc) rh
  have pRh := fun (c : Int) (l : Heap) (S : Nat) (hh : l.set S (some ⟨0, 5, false, true, rws GHead.enc rh⟩) = l) => hpm_all (enc := GHead.enc) (sz := 5) (mk := GHead.mkAt) (l := l) (S := S) (c := c) (ws := rh) hh
  have kRl := tkE (enc := GLast.enc) (l := rl) rfl
  have lRl := rws_len (enc := GLast.enc) rl
  have pRl := fun (c : Int) (l : Heap) (S : Nat) (hh : l.set S (some ⟨0, 4, false, true, rws GLast.enc rl⟩) = l) => hpm_all (enc := GLast.enc) (sz := 4) (mk := GLast.mkAt) (l := l) (S := S) (c := c) (ws := rl) hh
  have kRe := tkE (enc := GEntry.enc) (l := re) rfl
  have lRe := rws_len (enc := GEntry.enc) re
  have pRe := fun (c : Int) (l : Heap) (S : Nat) (hh : l.set S (some ⟨0, 10, false, true, rws GEntry.enc re⟩) = l) => hpm_all (enc := GEntry.enc) (sz := 10) (mk := GEntry.mkAt) (l := l) (S := S) (c := c) (ws := re) hh
  have kRc := tkE (enc := GChunk.enc) (l := rc) rfl
  have lRc := rws_len (enc := GChunk.enc) rc
  have pRc := fun (c : Int) (l : Heap) (S : Nat) (hh : l.set S (some ⟨0, 6, false, true, rws GChunk.enc rc⟩) = l) => hpm_all (enc := GChunk.enc) (sz := 6) (mk := GChunk.mkAt) (l := l) (S := S) (c := c) (ws := rc) hh
  have hh := fun k => heldPgState k r0 r1 r2 r3 r4 r5 rh.length rl.length re.length r9 r10 rc.length 1 (by omega) (by omega) (by omega) (by omega) (by omega)
  have qh := fun c n => tkE (enc := GHead.enc) (marks_len GHead.mkAt c n)
  have ql := fun c n => tkE (enc := GLast.enc) (marks_len GLast.mkAt c n)
  have qe := fun c n => tkE (enc := GEntry.enc) (marks_len GEntry.mkAt c n)
  have qc := fun c n => tkE (enc := GChunk.enc) (marks_len GChunk.mkAt c n)
  have d1 : decide (1 + 5 * (ah.length : Int) + 4 * al.length + 10 * ae.length + 6 * ac.length < 0) = false := by simp <;> omega
  have d3 : decide (1 + 5 * (rh.length : Int) + 4 * rl.length + 10 * re.length + 6 * rc.length < 0) = false := by simp <;> omega
  have te := fun k => toChunk k e.Name e.Ver_Epoch e.Ver_Seq e.Pos e.Sum e.Bytes
  unfold resPC psV at *
  simp only [GChunk.enc] at hi hs z2 ⊢
  simp (maxSteps := 40000000) [F5, rcall12, z1, g1, rcall22, z2, g2, rcall14, rcall24, te, rcall23, hs, rcall25, hi, rcall16, rcall17, rcall18, hh, storeM, d1, d3, tA, eA, mA, kAh, lAh, pAh, kAl, lAl, pAl, kAe, lAe, pAe, kAc, lAc, pAc, eR, mR, kRh, lRh, pRh, kRl, lRl, pRl, kRe, lRe, pRe, kRc, lRc, pRc, qh, ql, qe, qc]
end Go.Ae.GA.B
namespace Go.Ae.GA.B
set_option linter.unusedSimpArgs false
set_option linter.unusedVariables false
theorem chunk_inv {cs : List AV} (h : FitsAll [.str, .int .i64, .int .i64, .int .i64, .int .i64, .str] cs) : ∃ e : GChunk, cs = GChunk.enc e ∧ e.ok := by
  obtain ⟨ws, h1, h2⟩ := fitChunkS (xs := [cs]) (fun r hr => by simp at hr; subst hr; exact h)
  match ws, h1, h2 with
  | [x], h1, h2 => simp [rws] at h1; exact ⟨x, h1, h2 x (by simp)⟩
  | [], h1, _ => simp [rws] at h1
  | _ :: _ :: _, h1, _ => simp [rws] at h1
theorem lawPutChunk (avs : List AV) (h : PFitsAll [(true, [.int .i64, .int .i64, .int .i64, .int .i64, .int .i64, .int .i64, .sl 48 [.str, .int .i64, .int .i64, .int .i64, .int .i64], .sl 32 [.int .i64, .int .i64, .int .i64, .int .i64], .sl 88 [.int .i64, .int .i64, .int .i64, .int .i64, .str, .bool, .int .i64, .int .i64, .int .i64, .int .i64], .int .i64, .int .i64, .sl 64 [.str, .int .i64, .int .i64, .int .i64, .int .i64, .str]]), (true, [.str, .int .i64, .int .i64, .int .i64, .int .i64, .str])] avs) : ∃ n bs e, call code n 5 avs [] = some ⟨.bool true, bs, e⟩ := by
  obtain ⟨v0, r, rfl, h0, h⟩ := h.cons_inv
  obtain ⟨v1, r, rfl, h1, h⟩ := h.cons_inv
  obtain rfl := h.nil_inv
  obtain ⟨cs, rfl, f0⟩ := h0.agg_inv
  obtain ⟨ds, rfl, f1⟩ := h1.agg_inv
  obtain ⟨p0, p1, se, st, te, ts, hs, ls, es, fe, fs, ks, e1, x1, x2, x3, x5, x6, x7, x8⟩ := ps_inv f0
  obtain ⟨e, rfl, y⟩ := chunk_inv f1
  rw [e1]
  exact ⟨_, _, _, law5 0 p0 p1 se st te ts hs ls es fe fs ks e x1 x2 x3 x5 x6 x7 x8 y⟩
end Go.Ae.GA.B
