/- A chunk that belongs to a name and a version: both sides. -/
import Derived.Test.YtiabjkihebhfkaaGreatGBM4
import Derived.Test.YtiabjkihebhfkaaGreatAeL6
import Derived.Test.YtiabjkihebhfkaaGreatGBM5
namespace Go.Ae.GA.B
set_option linter.unusedSimpArgs false
set_option linter.unusedVariables false
def hdIs (n : ByteArray) (a b : Int) (h : GHead) : Bool := h.Name.toList == n.toList && (h.Ver_Epoch == a && h.Ver_Seq == b)
def enIs (n : ByteArray) (a b : Int) (e : GEntry) : Bool := !e.Gone && e.Name.toList == n.toList && (e.Ver_Epoch == a && e.Ver_Seq == b)
def belV (hs : List GHead) (es : List GEntry) (n : ByteArray) (a b : Int) : Bool := hs.any (hdIs n a b) || es.any (enIs n a b)
theorem hdIs_ok (k : Nat) (n : ByteArray) (a b : Int) (h : GHead) : call code (k + 1) 211 [.agg (GHead.enc h), .rptr [.str n], .rptr [.int .i64 a, .int .i64 b]] [] = some ⟨.bool (hdIs n a b h), [], []⟩ := by
  refine call_run rfl fn211 rfl ?_
  unfold hdIs
  cases c1 : (h.Name.toList == n.toList)
  · simp [F211, GHead.enc, c1]
  · simp [F211, GHead.enc, c1]
theorem enIs_ok (k : Nat) (n : ByteArray) (a b : Int) (e : GEntry) : call code (k + 1) 213 [.agg (GEntry.enc e), .rptr [.str n], .rptr [.int .i64 a, .int .i64 b]] [] = some ⟨.bool (enIs n a b e), [], []⟩ := by
  refine call_run rfl fn213 rfl ?_
  unfold enIs
  cases c1 : e.Gone
  · cases c2 : (e.Name.toList == n.toList)
    · simp [F213, GEntry.enc, c1, c2]
    · simp [F213, GEntry.enc, c1, c2]
  · simp [F213, GEntry.enc, c1]
theorem idxH (k : Nat) (n : ByteArray) (a b : Int) (hs : List GHead) (hn : hs.length ≤ 1000000000) : call code (k + 2) 244 [.rd true (rws GHead.enc hs), .fn 211 [.rptr [.str n], .rptr [.int .i64 a, .int .i64 b]]] [] = some ⟨.int .i64 (idxP (hdIs n a b) hs), [], []⟩ :=
  indexFunc_ok (c := code) (sz := 5) (ag := true) (arg := fun e => .agg (GHead.enc e)) rfl rfl 1 true hs hn rfl (fun _ => rfl) (fun _ => rfl) (fun st x => by simp [GHead.enc]) (fun h => by simp) (fun k x _ => hdIs_ok k n a b x) k
theorem anyH (k : Nat) (n : ByteArray) (a b : Int) (hs : List GHead) (hn : hs.length ≤ 1000000000) : call code (k + 3) 210 [.rd true (rws GHead.enc hs), .fn 211 [.rptr [.str n], .rptr [.int .i64 a, .int .i64 b]]] [] = some ⟨.bool (hs.any (hdIs n a b)), [], []⟩ :=
  containsFunc_ok (c := code) rfl rfl rfl 2 true hs (fun st => by simp) (fun k => idxH k n a b hs hn) k
theorem idxE (k : Nat) (n : ByteArray) (a b : Int) (es : List GEntry) (hn : es.length ≤ 1000000000) : call code (k + 2) 215 [.rd true (rws GEntry.enc es), .fn 213 [.rptr [.str n], .rptr [.int .i64 a, .int .i64 b]]] [] = some ⟨.int .i64 (idxP (enIs n a b) es), [], []⟩ :=
  indexFunc_ok (c := code) (sz := 10) (ag := true) (arg := fun e => .agg (GEntry.enc e)) rfl rfl 1 true es hn rfl (fun _ => rfl) (fun _ => rfl) (fun st x => by simp [GEntry.enc]) (fun h => by simp) (fun k x _ => enIs_ok k n a b x) k
theorem anyE (k : Nat) (n : ByteArray) (a b : Int) (es : List GEntry) (hn : es.length ≤ 1000000000) : call code (k + 3) 212 [.rd true (rws GEntry.enc es), .fn 213 [.rptr [.str n], .rptr [.int .i64 a, .int .i64 b]]] [] = some ⟨.bool (es.any (enIs n a b)), [], []⟩ :=
  containsFunc_ok (c := code) rfl rfl rfl 2 true es (fun st => by simp) (fun k => idxE k n a b es hn) k
set_option maxRecDepth 100000 in
set_option maxHeartbeats 64000000 in
theorem belongs (k : Nat) (p0 p1 se st te ts : Int) (hs : List GHead) (ls : List GLast) (es : List GEntry) (fe fs : Int) (cs : List GChunk) (n : ByteArray) (a b : Int) (b1 : hs.length ≤ 1048576) (b3 : es.length ≤ 1048576) :
    call code (k + 4) 150 [psV p0 p1 se st te ts hs ls es fe fs cs, .str n, .agg [.int .i64 a, .int .i64 b]] [] = some ⟨.bool (belV hs es n a b), [], []⟩ := by
  refine call_run rfl fn150 rfl ?_
  have h1 := fun k => anyH k n a b hs (by omega)
  have h2 := fun k => anyE k n a b es (by omega)
  unfold belV
  unfold psV at *
  generalize rws GHead.enc hs = R1 at *
  generalize rws GLast.enc ls = R2 at *
  generalize rws GEntry.enc es = R3 at *
  generalize rws GChunk.enc cs = R4 at *
  generalize hs.any (hdIs n a b) = x1 at *
  generalize es.any (enIs n a b) = x2 at *
  cases x1
  · simp [F150, rcall210, rcall212, h1, h2]
  · simp [F150, rcall210, rcall212, h1, h2]
end Go.Ae.GA.B
namespace Go.Ae.GA.B
set_option linter.unusedSimpArgs false
set_option linter.unusedVariables false
theorem hp_any {l : Heap} {S : Nat} {b : Nat → Blk} {i : Nat} {X : Option Blk} : (hp l S b i).set S X = l.set S X := by
  unfold hp
  split
  · rfl
  · rw [set_set_same]
section
variable {α : Type} (p : α → Bool) (l : List α)
/-- What stays. -/
def keptL : List α := l.filter fun x => !p x
/-- How many of the first j stay. -/
def dlN (j : Nat) : Nat := ((l.take j).filter fun x => !p x).length
/-- The row when c of them have been laid. -/
def dlC (c : Nat) : List α := (keptL p l).take c ++ l.drop c
variable {p l}
theorem dlN_le (j : Nat) : dlN p l j ≤ j := by
  unfold dlN
  have := List.length_filter_le (fun x => !p x) (l.take j)
  simp at this
  omega
theorem dlN_succ {j : Nat} (h : j < l.length) : dlN p l (j + 1) = dlN p l j + if p l[j] then 0 else 1 := by
  unfold dlN
  rw [List.take_succ_eq_append_getElem h, List.filter_append, List.length_append]
  cases hp : p l[j] <;> simp [hp]
theorem kept_split (j : Nat) : keptL p l = ((l.take j).filter fun x => !p x) ++ (l.drop j).filter fun x => !p x := by
  unfold keptL
  rw [← List.filter_append, List.take_append_drop]
theorem kept_take (j : Nat) : (keptL p l).take (dlN p l j) = (l.take j).filter fun x => !p x := by
  rw [kept_split j]
  exact List.take_left' rfl
theorem kept_len (j : Nat) : dlN p l j ≤ (keptL p l).length := by
  rw [kept_split j, List.length_append]
  unfold dlN
  omega
theorem kept_all : dlN p l l.length = (keptL p l).length := by
  unfold dlN keptL
  rw [List.take_length]
theorem kept_get {j : Nat} (h : j < l.length) (hp : p l[j] = false) : (keptL p l)[dlN p l j]? = some l[j] := by
  rw [kept_split j]
  unfold dlN
  rw [List.getElem?_append_right (Nat.le_refl _), Nat.sub_self, List.drop_eq_getElem_cons h, List.filter_cons]
  simp [hp]
theorem dlC_len {c : Nat} (h : c ≤ (keptL p l).length) : (dlC p l c).length = l.length := by
  have h1 := List.length_filter_le (fun x => !p x) l
  unfold dlC
  rw [List.length_append, List.length_take, List.length_drop]
  unfold keptL at *
  omega
theorem dlC_get {j : Nat} (h : j < l.length) : (dlC p l (dlN p l j))[j]? = some l[j] := by
  have h1 := dlN_le (p := p) (l := l) j
  have h2 := kept_len (p := p) (l := l) j
  unfold dlC
  rw [List.getElem?_append_right (by rw [List.length_take]; omega), List.length_take, Nat.min_eq_left h2, List.getElem?_drop]
  rw [show dlN p l j + (j - dlN p l j) = j by omega, List.getElem?_eq_getElem h]
theorem dlC_set {j : Nat} (h : j < l.length) (hp : p l[j] = false) : (dlC p l (dlN p l j)).set (dlN p l j) l[j] = dlC p l (dlN p l j + 1) := by
  have h1 := dlN_le (p := p) (l := l) j
  have h2 := kept_len (p := p) (l := l) j
  have hg := kept_get h hp
  obtain ⟨h3, h4⟩ := List.getElem?_eq_some_iff.1 hg
  unfold dlC
  rw [List.set_append_right _ _ (by rw [List.length_take]; omega), List.length_take, Nat.min_eq_left h2, Nat.sub_self, List.drop_eq_getElem_cons (show dlN p l j < l.length by omega), List.set_cons_zero, List.take_succ_eq_append_getElem h3, h4, List.append_assoc]
  rfl
theorem dlC_first {i : Nat} (hi : i < l.length) (hp : p l[i] = true) (hno : ∀ j (hj : j < l.length), j < i → p l[j] = false) : dlC p l i = l ∧ dlN p l (i + 1) = i := by
  have hf : (l.take i).filter (fun x => !p x) = l.take i := List.filter_eq_self.2 fun x hx => by
    obtain ⟨j, hj, rfl⟩ := List.getElem_of_mem hx
    rw [List.length_take] at hj
    rw [List.getElem_take, hno j (by omega) (by omega)]; rfl
  have hn : dlN p l i = i := by unfold dlN; rw [hf, List.length_take]; omega
  refine ⟨?_, by rw [dlN_succ hi, hn, hp]; simp⟩
  have := kept_take (p := p) (l := l) i
  rw [hn, hf] at this
  unfold dlC
  rw [this, List.take_append_drop]
theorem idxP_case (h : l.any p = true) : ∃ i, ∃ hi : i < l.length, p l[i] = true ∧ (∀ j (hj : j < l.length), j < i → p l[j] = false) ∧ idxP p l = i := by
  unfold idxP
  cases hf : l.findIdx? p with
  | none =>
    rw [List.findIdx?_eq_none_iff] at hf
    obtain ⟨x, hx, hp⟩ := List.any_eq_true.1 h
    rw [hf x hx] at hp; cases hp
  | some i =>
    rw [List.findIdx?_eq_some_iff_getElem] at hf
    obtain ⟨h1, h2, h3⟩ := hf
    exact ⟨i, h1, h2, fun j hj hji => by simpa using h3 j hji, rfl⟩
end
set_option maxRecDepth 100000 in
set_option maxHeartbeats 64000000 in
theorem deleteFunc (k d lv : Nat) (E : List Heap) (S A B : Nat) (cs : List GChunk) (w p0 p1 se st te ts fe fs : Int) (R1 R2 R3 R4 : List (List AV)) (P : GChunk → Bool) (hn : cs.length ≤ 1048576) (hlv : lv < E.length)
    (hl : (hat E lv).get S = some (some ⟨0, 6, false, true, rws GChunk.enc cs⟩))
    (ha : (hat E lv).get A = some (some ⟨0, 1, true, false, [[.int .i64 w]]⟩)) (hb : (hat E lv).get B = some (some ⟨0, 12, true, false, [[.int .i64 p0, .int .i64 p1, .int .i64 se, .int .i64 st, .int .i64 te, .int .i64 ts, .rd true R1, .rd true R2, .rd true R3, .int .i64 fe, .int .i64 fs, .rd true R4]]⟩)) (hAS : A ≠ S) (hBS : B ≠ S)
    (hcb : ∀ k x, x ∈ cs → call code (k + d) 149 [.agg (GChunk.enc x), .rptr [.int .i64 w], .rptr [.int .i64 p0, .int .i64 p1, .int .i64 se, .int .i64 st, .int .i64 te, .int .i64 ts, .rd true R1, .rd true R2, .rd true R3, .int .i64 fe, .int .i64 fs, .rd true R4]] [] = some ⟨.bool (P x), [], []⟩) :
    call code (k + d + 2) 148 [.sl (lv + 1) S 0 [] 0 cs.length, .fn 149 [.ptr (lv + 1) A 0 [] 0 0, .ptr (lv + 1) B 0 [] 0 0]] E = some (if cs.any P then ⟨.sl (lv + 1) S 1 [] 0 (cs.filter fun x => !P x).length, [], E.modify lv fun h => h.set S (some ⟨1, 6, false, true, rws GChunk.enc (cs.filter fun x => !P x)⟩)⟩ else ⟨.sl (lv + 1) S 0 [] 0 cs.length, [], E⟩) := by
  refine call_run rfl fn148 rfl ?_
  have hx := fun k => indexFunc_ok (c := code) (f := 209) (g := 149) (sz := 6) (ag := true) (caps := [.rptr [.int .i64 w], .rptr [.int .i64 p0, .int .i64 p1, .int .i64 se, .int .i64 st, .int .i64 te, .int .i64 ts, .rd true R1, .rd true R2, .rd true R3, .int .i64 fe, .int .i64 fs, .rd true R4]]) (p := P) (arg := fun e => .agg (GChunk.enc e)) rfl rfl d true cs (by omega) rfl (fun _ => rfl) (fun _ => rfl) (fun st x => by simp [GChunk.enc]) (fun h => by simp) hcb k
  have hrl := rws_len (enc := GChunk.enc) cs
  have k1 := tkE (enc := GChunk.enc) (l := cs) rfl
  cases hq : cs.any P
  · have hi : idxP P cs = -1 := idxP_none fun j hj => by
      rw [List.any_eq_false] at hq
      simpa using hq _ (List.getElem_mem hj)
    rw [hi] at hx
    simp [F148, rcall209, hl, ha, hb, hx, blk_succ, heap_succ, put_succ, hat_modify, hlv, hrl, k1]
  have hmd : code.md 149 = .val := rfl
  obtain ⟨i, hi, hpi, hno, hix⟩ := idxP_case hq
  rw [hix] at hx
  obtain ⟨hd0, hd1⟩ := dlC_first hi hpi hno
  have hnn : (((i : Int) == -1)) = false := by simp
  have hs0 : IntKind.wrap .i64 ((i : Int) + 1) = ((i + 1 : Nat) : Int) := by rw [wrap64 ⟨by omega, by omega⟩]; rfl
  simp [F148, rcall209, hl, ha, hb, hx, blk_succ, heap_succ, put_succ, hat_modify, hlv, hrl, k1, hnn, hs0]
  refine RunC_loop (fun j : Nat => ⟨tm 42 [(0, .sl (lv + 1) S 0 [] 0 cs.length), (1, .fn 149 [.ptr (lv + 1) A 0 [] 0 0, .ptr (lv + 1) B 0 [] 0 0]), (5, .int .i64 (dlN P cs j)), (6, .int .i64 j)], [(0, some ⟨0, 6, false, true, []⟩)], E.modify lv fun h => hp h S (fun m => ⟨0, 6, false, true, rws GChunk.enc (dlC P cs (i + m))⟩) (dlN P cs j - i)⟩)
    (fun j => i + 1 ≤ j ∧ j ≤ cs.length ∧ i ≤ dlN P cs j) (fun j => cs.length - j) (i + 1) ⟨by omega, by omega, by omega⟩ (by simp; omega) (by simp [tm, hd1, hp_zero, modify_id']) fun j hj _ => ?_
  obtain ⟨hj1, hj2, hj3⟩ := hj
  have hg : (hp (hat E lv) S (fun m => ⟨0, 6, false, true, rws GChunk.enc (dlC P cs (i + m))⟩) (dlN P cs j - i)).get S = some (some ⟨0, 6, false, true, rws GChunk.enc (dlC P cs (i + (dlN P cs j - i)))⟩) := hp_get (by simpa [hd0] using hl) _
  have hgA : (hp (hat E lv) S (fun m => ⟨0, 6, false, true, rws GChunk.enc (dlC P cs (i + m))⟩) (dlN P cs j - i)).get A = _ := (hp_ne hAS _).trans ha
  have hgB : (hp (hat E lv) S (fun m => ⟨0, 6, false, true, rws GChunk.enc (dlC P cs (i + m))⟩) (dlN P cs j - i)).get B = _ := (hp_ne hBS _).trans hb
  have hcl := dlC_len (kept_len (p := P) (l := cs) j)
  have hrc := rws_len (enc := GChunk.enc) (dlC P cs (dlN P cs j))
  rw [hcl] at hrc
  have hii : i + (dlN P cs j - i) = dlN P cs j := by omega
  rw [hii] at hg
  have hnl := dlN_le (p := P) (l := cs) j
  by_cases hlt : j < cs.length
  · have hs := idx_succ' hlt (by omega)
    have hel : ∀ h, (dlC P cs (dlN P cs j))[j]'h = cs[j] := fun h => by
      have := dlC_get (p := P) hlt
      rw [List.getElem?_eq_getElem h] at this
      exact Option.some.inj this
    have hcj := hcb (k + 1) cs[j] (List.getElem_mem hlt)
    rw [show k + 1 + d = k + d + 1 by omega] at hcj
    have hsc := dlN_succ (p := P) hlt
    cases hpp : P cs[j]
    · rw [hpp] at hcj hsc
      have hset : (rws GChunk.enc (dlC P cs (dlN P cs j))).set (dlN P cs j) (GChunk.enc cs[j]) = rws GChunk.enc (dlC P cs (dlN P cs j + 1)) := by rw [rws_set, dlC_set hlt hpp]
      have hhs : ∀ h : Heap, (hp h S (fun m => ⟨0, 6, false, true, rws GChunk.enc (dlC P cs (i + m))⟩) (dlN P cs j - i)).set S (some ⟨0, 6, false, true, rws GChunk.enc (dlC P cs (dlN P cs j + 1))⟩) = hp h S (fun m => ⟨0, 6, false, true, rws GChunk.enc (dlC P cs (i + m))⟩) (dlN P cs j - i + 1) := fun h => by
        have := hp_set (l := h) (S := S) (b := fun m => ⟨0, 6, false, true, rws GChunk.enc (dlC P cs (i + m))⟩) (dlN P cs j - i)
        rwa [show i + (dlN P cs j - i + 1) = dlN P cs j + 1 by omega] at this
      have hlc : dlN P cs j < cs.length := by omega
      have hs2 := idx_succ' hlc (by omega)
      simp only [GChunk.enc] at hset hcj
      simp only [Bool.false_eq_true, if_false] at hsc
      simp [tm, hlt, hg, hgA, hgB, blk_succ, heap_succ, put_succ, storeM, hat_modify, modify_modify', hlv, hrc, hs, hs2, get_set, set_set_same, hel, hcl, hlc, GChunk.enc, evalW_callv, hmd, hcj, hset, hhs]
      refine ⟨j + 1, ⟨by omega, by omega, by omega⟩, by omega, ?_⟩
      rw [hsc, show dlN P cs j + 1 - i = dlN P cs j - i + 1 by omega]
      simp
    · rw [hpp] at hcj hsc
      simp only [GChunk.enc] at hcj
      simp only [if_true, Nat.add_zero] at hsc
      simp [tm, hlt, hg, hgA, hgB, blk_succ, heap_succ, put_succ, storeM, hat_modify, modify_modify', hlv, hrc, hs, get_set, set_set_same, hel, hcl, GChunk.enc, evalW_callv, hmd, hcj]
      refine ⟨j + 1, ⟨by omega, by omega, by omega⟩, by omega, ?_⟩
      rw [hsc]
      simp
  · have : j = cs.length := by omega
    subst this
    have hka : dlN P cs cs.length = (keptL P cs).length := kept_all
    have hkl : (keptL P cs).length ≤ cs.length := List.length_filter_le _ _
    have htk : (rws GChunk.enc (dlC P cs (keptL P cs).length)).take (keptL P cs).length = rws GChunk.enc (keptL P cs) := by
      unfold rws dlC
      rw [← List.map_take, List.take_length, List.take_left' rfl]
    rw [hka] at hg hgA hgB hrc hj3 hii hcl hnl
    simp [tm, hg, hgA, hgB, blk_succ, heap_succ, put_succ, storeM, cutM, cutmH, hat_modify, modify_modify', hlv, hrc, get_set, set_set_same, hka, hkl, htk, evalW, hp_any]
    exact ⟨by omega, rfl, rfl⟩
end Go.Ae.GA.B
namespace Go.Ae.GA.B
set_option linter.unusedSimpArgs false
set_option linter.unusedVariables false
def dropP (hs : List GHead) (es : List GEntry) (w : Int) (c : GChunk) : Bool := c.Pos != w || !belV hs es c.Name c.Ver_Epoch c.Ver_Seq
set_option maxRecDepth 100000 in
set_option maxHeartbeats 64000000 in
theorem dropOne (k : Nat) (p0 p1 se st te ts : Int) (hs : List GHead) (ls : List GLast) (es : List GEntry) (fe fs : Int) (cs : List GChunk) (w : Int) (c : GChunk) (b1 : hs.length ≤ 1048576) (b3 : es.length ≤ 1048576) :
    call code (k + 5) 149 [.agg (GChunk.enc c), .rptr [.int .i64 w], .rptr [.int .i64 p0, .int .i64 p1, .int .i64 se, .int .i64 st, .int .i64 te, .int .i64 ts, .rd true (rws GHead.enc hs), .rd true (rws GLast.enc ls), .rd true (rws GEntry.enc es), .int .i64 fe, .int .i64 fs, .rd true (rws GChunk.enc cs)]] [] = some ⟨.bool (dropP hs es w c), [], []⟩ := by
  refine call_run rfl fn149 rfl ?_
  have hb := fun k => belongs k p0 p1 se st te ts hs ls es fe fs cs c.Name c.Ver_Epoch c.Ver_Seq b1 b3
  unfold dropP
  unfold psV at *
  generalize rws GHead.enc hs = R1 at *
  generalize rws GLast.enc ls = R2 at *
  generalize rws GEntry.enc es = R3 at *
  generalize rws GChunk.enc cs = R4 at *
  generalize belV hs es c.Name c.Ver_Epoch c.Ver_Seq = x at *
  cases c1 : (c.Pos != w)
  · simp [F149, GChunk.enc, c1, rcall150, hb]
  · simp [F149, GChunk.enc, c1, rcall150, hb]
set_option maxRecDepth 100000 in
set_option maxHeartbeats 64000000 in
theorem dropping (k : Nat) (p0 p1 se st te ts : Int) (hs : List GHead) (ls : List GLast) (es : List GEntry) (fe fs : Int) (cs : List GChunk) (w : Int) (b1 : hs.length ≤ 1048576) (b2 : ls.length ≤ 1048576) (b3 : es.length ≤ 1048576) (b4 : cs.length ≤ 1048576) :
    call code (k + 8) 67 [psV p0 p1 se st te ts hs ls es fe fs cs, .int .i64 w] [] = some (resPS p0 p1 se st te ts hs ls es fe fs (keptL (dropP hs es w) cs)) := by
  refine call_run rfl fn67 rfl ?_
  have hc := fun k => clone k p0 p1 se st te ts hs ls es fe fs cs b1 b2 b3 b4
  have hd := fun (E : List Heap) (S A B : Nat) lv h1 h2 h3 h4 h5 h6 => deleteFunc k 5 lv E S A B cs w p0 p1 se st te ts fe fs (rws GHead.enc hs) (rws GLast.enc ls) (rws GEntry.enc es) (rws GChunk.enc cs) (dropP hs es w) b4 h1 h2 h3 h4 h5 h6 (fun k x _ => dropOne k p0 p1 se st te ts hs ls es fe fs cs w x b1 b3)
  have l1 := rws_len (enc := GHead.enc) hs
  have l2 := rws_len (enc := GLast.enc) ls
  have l3 := rws_len (enc := GEntry.enc) es
  have l4 := rws_len (enc := GChunk.enc) cs
  have l5 := rws_len (enc := GChunk.enc) (keptL (dropP hs es w) cs)
  have k1 := tkE (enc := GHead.enc) (l := hs) rfl
  have k2 := tkE (enc := GLast.enc) (l := ls) rfl
  have k3 := tkE (enc := GEntry.enc) (l := es) rfl
  have k4 := tkE (enc := GChunk.enc) (l := cs) rfl
  have k5 := tkE (enc := GChunk.enc) (l := keptL (dropP hs es w) cs) rfl
  have hke : cs.filter (fun x => !dropP hs es w x) = keptL (dropP hs es w) cs := rfl
  have hno : cs.any (dropP hs es w) = false → keptL (dropP hs es w) cs = cs := fun h => by
    unfold keptL
    rw [List.filter_eq_self]
    intro x hx
    rw [List.any_eq_false] at h
    simpa using h x hx
  rw [hke] at hd
  unfold psV resPS at *
  generalize keptL (dropP hs es w) cs = ks at *
  generalize cs.any (dropP hs es w) = q at *
  cases q
  · rw [hno rfl] at *
    generalize rws GHead.enc hs = R1 at *
    generalize rws GLast.enc ls = R2 at *
    generalize rws GEntry.enc es = R3 at *
    generalize rws GChunk.enc cs = R4 at *
    simp [F67, rcall147, rcall148, hc, hd, storeM, l1, l2, l3, l4, k1, k2, k3, k4]
  · generalize rws GHead.enc hs = R1 at *
    generalize rws GLast.enc ls = R2 at *
    generalize rws GEntry.enc es = R3 at *
    generalize rws GChunk.enc cs = R4 at *
    generalize rws GChunk.enc ks = R5 at *
    simp [F67, rcall147, rcall148, hc, hd, storeM, l1, l2, l3, l4, l5, k1, k2, k3, k4, k5]
end Go.Ae.GA.B
namespace Go.Ae.GA.B
set_option linter.unusedSimpArgs false
set_option linter.unusedVariables false
set_option maxRecDepth 100000 in
set_option maxHeartbeats 64000000 in
theorem l17Belongs (k : Nat) (p0 p1 se st te ts : Int) (hs : List GHead) (ls : List GLast) (es : List GEntry) (fe fs : Int) (cs : List GChunk) (n : ByteArray) (a b : Int) (b1 : hs.length ≤ 1048576) (b3 : es.length ≤ 1048576) :
    call code (k + 1) 60 [psV p0 p1 se st te ts hs ls es fe fs cs, .str n, .agg [.int .i64 a, .int .i64 b]] [] = some ⟨.bool (belV hs es n a b), [], []⟩ := by
  refine call_run rfl fn60 rfl ?_
  have hr1 := rws_len (enc := GHead.enc) hs
  have hr3 := rws_len (enc := GEntry.enc) es
  have hg1 : ∀ i (hi : i < hs.length) (hh : i < (rws GHead.enc hs).length), (rws GHead.enc hs)[i]'hh = GHead.enc hs[i] := fun i hi hh => rws_get ..
  have hg3 : ∀ i (hi : i < es.length) (hh : i < (rws GEntry.enc es).length), (rws GEntry.enc es)[i]'hh = GEntry.enc es[i] := fun i hi hh => rws_get ..
  unfold psV at *
  generalize rws GEntry.enc es = R3 at *
  generalize rws GHead.enc hs = R1 at *
  generalize rws GLast.enc ls = R2 at *
  generalize rws GChunk.enc cs = R4 at *
  have ht : ∀ {x : Bool}, x = true → (hs.any (hdIs n a b) = x ∨ es.any (enIs n a b) = x) → belV hs es n a b = true := fun {x} hx h => by
    subst hx; unfold belV; rcases h with h | h <;> rw [h] <;> simp
  simp [F60]
  refine RunC_loop (fun i : Nat => ⟨tm 68 [(1, .str n), (3, .ptr 0 0 0 [] 0 0), (5, .ptr 0 256 0 [] 0 0), (7, .int .i64 i)], [(0, some ⟨0, 12, true, false, [[.int .i64 p0, .int .i64 p1, .int .i64 se, .int .i64 st, .int .i64 te, .int .i64 ts, .rd true R1, .rd true R2, .rd true R3, .int .i64 fe, .int .i64 fs, .rd true R4]]⟩), (256, some ⟨0, 2, true, false, [[.int .i64 a, .int .i64 b]]⟩)], []⟩)
    (fun i => i ≤ hs.length ∧ ∀ (j : Nat) (hj : j < hs.length), j < i → hdIs n a b hs[j] = false) (fun i => hs.length - i) 0 ⟨Nat.zero_le _, fun j _ h => by omega⟩ (by simp; omega) (by simp [tm]) fun i hi _ => ?_
  obtain ⟨hi, hno⟩ := hi
  by_cases hlt : i < hs.length
  · have hs' := idx_succ' hlt (by omega)
    have hg := hg1 i hlt
    simp only [GHead.enc] at hg
    cases hv : hdIs n a b hs[i]
    · have hv' := hv
      unfold hdIs at hv'
      cases c1 : (hs[i].Name.toList == n.toList)
      · simp [tm, hlt, hr1, hg, c1, hs', -Bool.and_eq_true, -Bool.and_eq_false_imp]
        refine ⟨i + 1, ⟨by omega, fun j hj hji => ?_⟩, by omega, by simp⟩
        rcases Nat.lt_succ_iff_lt_or_eq.1 hji with h | rfl
        · exact hno j hj h
        · exact hv
      · rw [c1] at hv'
        simp only [Bool.true_and] at hv'
        simp [tm, hlt, hr1, hg, c1, hv', hs', -Bool.and_eq_true, -Bool.and_eq_false_imp]
        refine ⟨i + 1, ⟨by omega, fun j hj hji => ?_⟩, by omega, by simp⟩
        rcases Nat.lt_succ_iff_lt_or_eq.1 hji with h | rfl
        · exact hno j hj h
        · exact hv
    · have hv' := hv
      unfold hdIs at hv'
      simp only [Bool.and_eq_true] at hv'
      have hu := ht rfl (.inl (List.any_eq_true.2 ⟨_, List.getElem_mem hlt, hv⟩))
      simp [tm, hlt, hr1, hg, hv'.1, hv'.2.1, hv'.2.2, hs', hu]
  have hie : i = hs.length := by omega
  subst hie
  have hna : hs.any (hdIs n a b) = false := by
    rw [List.any_eq_false]
    intro x hx
    obtain ⟨j, hj, rfl⟩ := List.getElem_of_mem hx
    simp [hno j hj hj]
  have hbe : belV hs es n a b = es.any (enIs n a b) := by unfold belV; rw [hna]; rfl
  rw [hbe]
  simp [tm, hr1]
  refine RunC_loop (fun i : Nat => ⟨tm 68 [(1, .str n), (3, .ptr 0 0 0 [] 0 0), (5, .ptr 0 256 0 [] 0 0), (8, .int .i64 i)], [(0, some ⟨0, 12, true, false, [[.int .i64 p0, .int .i64 p1, .int .i64 se, .int .i64 st, .int .i64 te, .int .i64 ts, .rd true R1, .rd true R2, .rd true R3, .int .i64 fe, .int .i64 fs, .rd true R4]]⟩), (256, some ⟨0, 2, true, false, [[.int .i64 a, .int .i64 b]]⟩)], []⟩)
    (fun i => i ≤ es.length ∧ ∀ (j : Nat) (hj : j < es.length), j < i → enIs n a b es[j] = false) (fun i => es.length - i) 0 ⟨Nat.zero_le _, fun j _ h => by omega⟩ (by simp; omega) (by simp [tm]) fun i hi _ => ?_
  obtain ⟨hi, hno2⟩ := hi
  by_cases hlt : i < es.length
  · have hs' := idx_succ' hlt (by omega)
    have hg := hg3 i hlt
    simp only [GEntry.enc] at hg
    have fin : enIs n a b es[i] = false → ∀ (j : Nat) (hj : j < es.length), j < i + 1 → enIs n a b es[j] = false := fun hv j hj hji => by
      rcases Nat.lt_succ_iff_lt_or_eq.1 hji with h | rfl
      · exact hno2 j hj h
      · exact hv
    have hev : enIs n a b es[i] = (!es[i].Gone && es[i].Name.toList == n.toList && (es[i].Ver_Epoch == a && es[i].Ver_Seq == b)) := rfl
    cases c1 : (es[i].Name.toList == n.toList)
    · rw [c1] at hev
      simp only [Bool.and_false, Bool.false_and] at hev
      simp [tm, hlt, hr3, hg, c1, hs', -Bool.and_eq_true, -Bool.and_eq_false_imp]
      exact ⟨i + 1, ⟨by omega, fin hev⟩, by omega, by simp⟩
    rw [c1] at hev
    cases c2 : (es[i].Ver_Epoch == a && es[i].Ver_Seq == b)
    · rw [c2] at hev
      simp only [Bool.and_false] at hev
      simp [tm, hlt, hr3, hg, c1, c2, hs', -Bool.and_eq_true, -Bool.and_eq_false_imp]
      exact ⟨i + 1, ⟨by omega, fin hev⟩, by omega, by simp⟩
    rw [c2] at hev
    simp only [Bool.and_eq_true] at c2
    cases c3 : es[i].Gone
    · rw [c3] at hev
      have hu : es.any (enIs n a b) = true := List.any_eq_true.2 ⟨_, List.getElem_mem hlt, hev⟩
      simp [tm, hlt, hr3, hg, c1, c2.1, c2.2, c3, hs', hu]
    · rw [c3] at hev
      simp only [Bool.not_true, Bool.false_and] at hev
      simp [tm, hlt, hr3, hg, c1, c2.1, c2.2, c3, hs']
      exact ⟨i + 1, ⟨by omega, fin hev⟩, by omega, by simp⟩
  · have : i = es.length := by omega
    subst this
    have hu : es.any (enIs n a b) = false := by
      rw [List.any_eq_false]
      intro x hx
      obtain ⟨j, hj, rfl⟩ := List.getElem_of_mem hx
      simp [hno2 j hj hj]
    simp [tm, hr3, hu]
end Go.Ae.GA.B
namespace Go.Ae.GA.B
set_option linter.unusedSimpArgs false
set_option linter.unusedVariables false
theorem wsum_mem {α : Type} {w : α → Nat} {l : List α} {x : α} (h : x ∈ l) : w x ≤ wsum w l := by
  induction l with
  | nil => cases h
  | cons a r ih =>
    unfold wsum at *
    rw [List.map_cons, List.sum_cons]
    rcases List.mem_cons.1 h with rfl | h
    · omega
    · have := ih h; omega
theorem h_names {hs : List GHead} {n : Nat} (h : wsum GHead.wt hs ≤ n) : ∀ c ∈ hs, c.Name.size ≤ n := fun c hc => Nat.le_trans (wsum_mem (w := GHead.wt) hc) h
theorem e_names {hs : List GEntry} {n : Nat} (h : wsum GEntry.wt hs ≤ n) : ∀ c ∈ hs, c.Name.size ≤ n := fun c hc => Nat.le_trans (wsum_mem (w := GEntry.wt) hc) h
theorem c_names {hs : List GChunk} {n : Nat} (h : wsum GChunk.wt hs ≤ n) : ∀ c ∈ hs, c.Name.size ≤ n := fun c hc => by
  have h1 := wsum_mem (w := GChunk.wt) hc
  have h2 : c.Name.size ≤ GChunk.wt c := by unfold GChunk.wt; omega
  omega
/-- Lengths that the sizes allow. -/
structure Few (hs : List GHead) (ls : List GLast) (es : List GEntry) (cs : List GChunk) : Prop where
  h : hs.length ≤ 1048576
  l : ls.length ≤ 1048576
  e : es.length ≤ 1048576
  c : cs.length ≤ 1048576
  hn : ∀ c ∈ hs, c.Name.size ≤ 1048576
  en : ∀ c ∈ es, c.Name.size ≤ 1048576
  cn : ∀ c ∈ cs, c.Name.size ≤ 1048576
theorem few_of {hs : List GHead} {ls : List GLast} {es : List GEntry} {cs : List GChunk} (h : (hs.length + wsum GHead.wt hs) + ls.length + (es.length + wsum GEntry.wt es) + (cs.length + wsum GChunk.wt cs) ≤ 1048576) : Few hs ls es cs :=
  ⟨by omega, by omega, by omega, by omega, h_names (by omega), e_names (by omega), c_names (by omega)⟩
theorem few_nil : Few [] [] [] [] := ⟨by simp, by simp, by simp, by simp, by simp, by simp, by simp⟩
end Go.Ae.GA.B
namespace Go.Ae.GA.B
set_option linter.unusedSimpArgs false
set_option linter.unusedVariables false
def zeroPS : Res := resPS 0 0 0 0 0 0 [] [] [] 0 0 []
set_option maxRecDepth 100000 in
set_option maxHeartbeats 64000000 in
theorem dropChunksI (k : Nat) (p0 p1 se st te ts : Int) (hs : List GHead) (ls : List GLast) (es : List GEntry) (fe fs : Int) (cs : List GChunk) (w : Int) (b1 : hs.length ≤ 1048576) (b2 : ls.length ≤ 1048576) (b3 : es.length ≤ 1048576) (b4 : cs.length ≤ 1048576) (g : Bool)
    (o1 : ∀ k, call code (k + 7) 66 [psV p0 p1 se st te ts hs ls es fe fs cs] [] = some ⟨.bool g, [], []⟩) :
    call code (k + 9) 15 [psV p0 p1 se st te ts hs ls es fe fs cs, .int .i64 w] [] = some (if g then resPS p0 p1 se st te ts hs ls es fe fs (keptL (dropP hs es w) cs) else zeroPS) := by
  refine call_run rfl fn15 rfl ?_
  have hd := fun k => dropping k p0 p1 se st te ts hs ls es fe fs cs w b1 b2 b3 b4
  have l1 := rws_len (enc := GHead.enc) hs
  have l2 := rws_len (enc := GLast.enc) ls
  have l3 := rws_len (enc := GEntry.enc) es
  have l4 := rws_len (enc := GChunk.enc) (keptL (dropP hs es w) cs)
  have k1 := tkE (enc := GHead.enc) (l := hs) rfl
  have k2 := tkE (enc := GLast.enc) (l := ls) rfl
  have k3 := tkE (enc := GEntry.enc) (l := es) rfl
  have k4 := tkE (enc := GChunk.enc) (l := keptL (dropP hs es w) cs) rfl
  have n1 : rws GHead.enc [] = [] := rfl
  have n2 : rws GLast.enc [] = [] := rfl
  have n3 : rws GEntry.enc [] = [] := rfl
  have n4 : rws GChunk.enc [] = [] := rfl
  unfold zeroPS
  unfold psV resPS at *
  rw [n1, n2, n3, n4]
  generalize keptL (dropP hs es w) cs = ks at *
  generalize rws GHead.enc hs = R1 at *
  generalize rws GLast.enc ls = R2 at *
  generalize rws GEntry.enc es = R3 at *
  generalize rws GChunk.enc cs = R4 at *
  generalize rws GChunk.enc ks = R5 at *
  cases g
  · simp [F15, rcall66, rcall67, o1, storeM]
  · simp [F15, rcall66, rcall67, o1, hd, storeM, l1, l2, l3, l4, k1, k2, k3, k4]
theorem kept_step (P : GChunk → Bool) (cs : List GChunk) {i : Nat} (h : i < cs.length) : keptL P (cs.take (i + 1)) = keptL P (cs.take i) ++ if P cs[i] then [] else [cs[i]] := by
  unfold keptL
  rw [List.take_succ_eq_append_getElem h, List.filter_append]
  cases hp : P cs[i] <;> simp [hp]
set_option maxRecDepth 100000 in
set_option maxHeartbeats 64000000 in
theorem dropChunksS (k : Nat) (p0 p1 se st te ts : Int) (hs : List GHead) (ls : List GLast) (es : List GEntry) (fe fs : Int) (cs : List GChunk) (w : Int) (b1 : hs.length ≤ 1048576) (b2 : ls.length ≤ 1048576) (b3 : es.length ≤ 1048576) (b4 : cs.length ≤ 1048576) (g : Bool)
    (o1 : ∀ k, call code (k + 7) 29 [psV p0 p1 se st te ts hs ls es fe fs cs] [] = some ⟨.bool g, [], []⟩) :
    call code (k + 9) 13 [psV p0 p1 se st te ts hs ls es fe fs cs, .int .i64 w] [] = some (if g then resPS p0 p1 se st te ts hs ls es fe fs (keptL (dropP hs es w) cs) else zeroPS) := by
  refine call_run rfl fn13 rfl ?_
  have hc := fun k => l17Copy k p0 p1 se st te ts hs ls es fe fs cs b1 b2 b3 b4
  have hb := fun k i (hi : i < cs.length) => l17Belongs k p0 p1 se st te ts hs ls es fe fs cs cs[i].Name cs[i].Ver_Epoch cs[i].Ver_Seq b1 b3
  have hgx : ∀ i (hi : i < cs.length) (hh : i < (rws GChunk.enc cs).length), (rws GChunk.enc cs)[i]'hh = GChunk.enc cs[i] := fun i hi hh => rws_get ..
  have l1 := rws_len (enc := GHead.enc) hs
  have l2 := rws_len (enc := GLast.enc) ls
  have l3 := rws_len (enc := GEntry.enc) es
  have l4 := rws_len (enc := GChunk.enc) cs
  have k1 := tkE (enc := GHead.enc) (l := hs) rfl
  have k2 := tkE (enc := GLast.enc) (l := ls) rfl
  have k3 := tkE (enc := GEntry.enc) (l := es) rfl
  have k4 := tkE (enc := GChunk.enc) (l := cs) rfl
  have n1 : rws GHead.enc [] = [] := rfl
  have n2 : rws GLast.enc [] = [] := rfl
  have n3 : rws GEntry.enc [] = [] := rfl
  have n4 : rws GChunk.enc [] = [] := rfl
  unfold zeroPS
  unfold psV resPS at *
  rw [n1, n2, n3, n4]
  generalize rws GHead.enc hs = R1 at *
  generalize rws GLast.enc ls = R2 at *
  generalize rws GEntry.enc es = R3 at *
  generalize hR4 : rws GChunk.enc cs = R4 at *
  cases g
  · simp [F13, rcall29, o1, storeM]
  simp [F13, rcall29, rcall59, o1, hc, storeM, l1, l2, l3, l4, k1, k2, k3, k4]
  refine RunC_loop (fun i : Nat => ⟨tm 47 [(1, .int .i64 w), (2, .ptr 0 0 0 [] 0 0), (4, .ptr 0 256 0 [] 0 0), (5, .ptr 0 197120 0 [] 0 0), (6, .int .i64 i)],
      [(0, some ⟨0, 12, true, false, [[.int .i64 p0, .int .i64 p1, .int .i64 se, .int .i64 st, .int .i64 te, .int .i64 ts, .rd true R1, .rd true R2, .rd true R3, .int .i64 fe, .int .i64 fs, .rd true R4]]⟩),
       (256, some ⟨0, 12, true, false, [[.int .i64 0, .int .i64 0, .int .i64 0, .int .i64 0, .int .i64 0, .int .i64 0, .sl 0 263 0 [] 0 0, .sl 0 264 0 [] 0 0, .sl 0 265 0 [] 0 0, .int .i64 0, .int .i64 0, .sl 0 268 0 [] 0 0]]⟩),
       (263, some ⟨0, 5, false, true, []⟩), (264, some ⟨0, 4, false, true, []⟩), (265, some ⟨0, 10, false, true, []⟩), (268, some ⟨0, 6, false, true, []⟩),
       (196864, some ⟨0, 5, false, true, R1⟩), (196865, some ⟨0, 4, false, true, R2⟩), (196866, some ⟨0, 10, false, true, R3⟩), (196867, some ⟨0, 6, false, true, R4⟩),
       (197120, some ⟨0, 12, true, false, [[.int .i64 p0, .int .i64 p1, .int .i64 se, .int .i64 st, .int .i64 te, .int .i64 ts, .sl 0 196864 0 [] 0 hs.length, .sl 0 196865 0 [] 0 ls.length, .sl 0 196866 0 [] 0 es.length, .int .i64 fe, .int .i64 fs, .sl 0 262144 0 [] 0 (keptL (dropP hs es w) (cs.take i)).length]]⟩),
       (197127, some ⟨0, 5, false, true, []⟩), (197128, some ⟨0, 4, false, true, []⟩), (197129, some ⟨0, 10, false, true, []⟩), (197132, some ⟨0, 6, false, true, []⟩),
       (262144, some ⟨0, 6, false, true, rws GChunk.enc (keptL (dropP hs es w) (cs.take i))⟩)], []⟩)
    (fun i => i ≤ cs.length) (fun i => cs.length - i) 0 (Nat.zero_le _) (by simp; omega) (by simp [tm, keptL, rws]) fun i hi _ => ?_
  have hkl : (keptL (dropP hs es w) (cs.take i)).length ≤ 1048576 := by
    have := List.length_filter_le (fun x => !dropP hs es w x) (cs.take i)
    simp at this
    unfold keptL
    omega
  have l5 := rws_len (enc := GChunk.enc) (keptL (dropP hs es w) (cs.take i))
  by_cases hlt : i < cs.length
  · have hs' := idx_succ' hlt (by omega)
    have hg := hgx i hlt
    have hst := kept_step (dropP hs es w) cs hlt
    have hb := fun k => hb k i hlt
    have hdp : dropP hs es w cs[i] = (cs[i].Pos != w || !belV hs es cs[i].Name cs[i].Ver_Epoch cs[i].Ver_Seq) := rfl
    simp only [GChunk.enc] at hg
    generalize belV hs es cs[i].Name cs[i].Ver_Epoch cs[i].Ver_Seq = x at *
    have hne : (cs[i].Pos != w) = !(cs[i].Pos == w) := rfl
    rw [hne] at hdp
    cases c1 : (cs[i].Pos == w)
    · rw [c1] at hdp
      simp only [Bool.not_false, Bool.true_or] at hdp
      rw [hdp] at hst
      simp only [if_true, List.append_nil] at hst
      simp [tm, hlt, l4, hg, hs', c1, rcall60, hb]
      exact ⟨i + 1, by omega, by omega, by rw [hst]; simp⟩
    rw [c1] at hdp
    simp only [Bool.not_true, Bool.false_or] at hdp
    cases x
    · rw [hdp] at hst
      simp only [Bool.not_false, if_true, List.append_nil] at hst
      simp [tm, hlt, l4, hg, hs', c1, rcall60, hb]
      exact ⟨i + 1, by omega, by omega, by rw [hst]; simp⟩
    · rw [hdp] at hst
      simp only [Bool.not_true, Bool.false_eq_true, if_false] at hst
      have hst2 : rws GChunk.enc (keptL (dropP hs es w) (cs.take (i + 1))) = rws GChunk.enc (keptL (dropP hs es w) (cs.take i)) ++ [[.str cs[i].Name, .int .i64 cs[i].Ver_Epoch, .int .i64 cs[i].Ver_Seq, .int .i64 cs[i].Pos, .int .i64 cs[i].Sum, .str cs[i].Bytes]] := by
        rw [hst]; simp [rws, GChunk.enc]
      have hst3 : (keptL (dropP hs es w) (cs.take (i + 1))).length = (keptL (dropP hs es w) (cs.take i)).length + 1 := by rw [hst]; simp
      generalize (keptL (dropP hs es w) (cs.take i)).length = m at *
      generalize rws GChunk.enc (keptL (dropP hs es w) (cs.take i)) = K at *
      simp [tm, hlt, l4, l5, hg, hs', c1, rcall60, hb, storeM, evalW, source]
      exact ⟨⟨by omega, by omega⟩, i + 1, by omega, by omega, by simp, hst3.symm, hst2.symm⟩
  · have : i = cs.length := by omega
    subst this
    rw [List.take_length] at *
    have k5 := tkE (enc := GChunk.enc) (l := keptL (dropP hs es w) cs) rfl
    generalize keptL (dropP hs es w) cs = ks at *
    generalize rws GChunk.enc ks = K at *
    simp [tm, l1, l2, l3, l4, l5, k1, k2, k3, k4, k5, storeM]
theorem dropChunkss (p0 p1 se st te ts : Int) (hs : List GHead) (ls : List GLast) (es : List GEntry) (fe fs : Int) (cs : List GChunk) (w : Int) (d : Few hs ls es cs) :
    ∃ r0 r1 r2 r3 r4 r5 rh rl re r9 r10 rc, (∀ k, call code (k + 9) 15 [psV p0 p1 se st te ts hs ls es fe fs cs, .int .i64 w] [] = some (resPS r0 r1 r2 r3 r4 r5 rh rl re r9 r10 rc)) ∧
      (∀ k, call code (k + 9) 13 [psV p0 p1 se st te ts hs ls es fe fs cs, .int .i64 w] [] = some (resPS r0 r1 r2 r3 r4 r5 rh rl re r9 r10 rc)) ∧ Few rh rl re rc := by
  have i1 := fun k => stateOk k p0 p1 se st te ts hs ls es fe fs cs d.h d.l d.e d.c d.hn d.en d.cn
  have s1 := fun k => stateOkS k p0 p1 se st te ts hs ls es fe fs cs d.h d.l d.e d.c d.hn d.en d.cn
  have I := fun k => dropChunksI k p0 p1 se st te ts hs ls es fe fs cs w d.h d.l d.e d.c _ i1
  have S := fun k => dropChunksS k p0 p1 se st te ts hs ls es fe fs cs w d.h d.l d.e d.c _ s1
  cases hg : stateB p0 p1 se st te ts hs ls es fe fs cs
  · rw [hg] at I S
    exact ⟨_, _, _, _, _, _, _, _, _, _, _, _, I, S, few_nil⟩
  · rw [hg] at I S
    refine ⟨_, _, _, _, _, _, _, _, _, _, _, _, I, S, ⟨d.h, d.l, d.e, ?_, d.hn, d.en, fun c hc => d.cn c (List.mem_filter.1 hc).1⟩⟩
    have := List.length_filter_le (fun x => !dropP hs es w x) cs
    have := d.c
    unfold keptL
    omega
end Go.Ae.GA.B
namespace Go.Ae.GA.B
set_option linter.unusedSimpArgs false
set_option linter.unusedVariables false
set_option maxRecDepth 100000 in
set_option maxHeartbeats 200000000 in
theorem law3 (n : Nat) (a0 a1 a2 a3 a4 a5 : Int) (ah : List GHead) (al : List GLast) (ae : List GEntry) (a9 a10 : Int) (ac : List GChunk) (va : Int) (x1 : ah.length ≤ 140737488351232) (x2 : ∀ x ∈ ah, x.ok) (x3 : al.length ≤ 140737488351232) (x5 : ae.length ≤ 140737488351232) (x6 : ∀ x ∈ ae, x.ok) (x7 : ac.length ≤ 140737488351232) (x8 : ∀ x ∈ ac, x.ok) :
    call code (n + 13) 3 [psV a0 a1 a2 a3 a4 a5 ah al ae a9 a10 ac, .int .i64 va] [] = some ⟨.bool true, [], []⟩ := by
  refine call_run rfl fn3 rfl ?_
  have z1 := fun k => szPgState k 1048576 a0 a1 a2 a3 a4 a5 ah al ae a9 a10 ac (by omega) x1 x2 x3 x5 x6 x7 x8
  cases g1 : decide (szV 1048576 ((ah.length + wsum GHead.wt ah) + al.length + (ae.length + wsum GEntry.wt ae) + (ac.length + wsum GChunk.wt ac)) < 0)
  rotate_left
  · obtain ⟨_, e1⟩ := szV_neg g1 (by omega)
    rw [e1] at z1
    unfold psV
    simp [F3, rcall12, z1]
  obtain ⟨a1', e1⟩ := szV_pos g1 (by omega)
  rw [e1] at z1 g1
  have fa : Few ah al ae ac := few_of (by omega)
  generalize ((ah.length + wsum GHead.wt ah) + al.length + (ae.length + wsum GEntry.wt ae) + (ac.length + wsum GChunk.wt ac)) = wa at *
  obtain ⟨r0, r1, r2, r3, r4, r5, rh, rl, re, r9, r10, rc, hi, hs, fr⟩ := dropChunkss a0 a1 a2 a3 a4 a5 ah al ae a9 a10 ac va fa
  have bA1 := fa.h
  have bA2 := fa.l
  have bA3 := fa.e
  have bA4 := fa.c
  have tA := fun k => toPgState k a0 a1 a2 a3 a4 a5 ah al ae a9 a10 ac (by omega) (by omega) (by omega) (by omega)
  have eA := fun k => eqPgState k a0 a1 a2 a3 a4 a5 ah al ae a9 a10 ac (by omega) (by omega) (by omega) (by omega)
  have mA := fun k lv E S1 S2 S3 S4 hlv ga gb gc gd n1 n2 n3 n4 n5 n6 => markPgState k lv E a0 a1 a2 a3 a4 a5 ah al ae a9 a10 ac S1 S2 S3 S4 1 (by omega) hlv (by omega) (by omega) (by omega) (by omega) ga gb gc gd n1 n2 n3 n4 n5 n6
  have kAh := tkE (enc := GHead.enc) (l := ah) rfl
  have lAh := rws_len (enc := GHead.enc) ah
  have pAh := fun (c : Int) (l : Heap) (S : Nat) (hh : l.set S (some ⟨0, 5, false, true, rws GHead.enc ah⟩) = l) => hpm_all (enc := GHead.enc) (sz := 5) (mk := GHead.mkAt) (l := l) (S := S) (c := c) (ws := ah) hh
  have kAl := tkE (enc := GLast.enc) (l := al) rfl
  have lAl := rws_len (enc := GLast.enc) al
  have pAl := fun (c : Int) (l : Heap) (S : Nat) (hh : l.set S (some ⟨0, 4, false, true, rws GLast.enc al⟩) = l) => hpm_all (enc := GLast.enc) (sz := 4) (mk := GLast.mkAt) (l := l) (S := S) (c := c) (ws := al) hh
  have kAe := tkE (enc := GEntry.enc) (l := ae) rfl
  have lAe := rws_len (enc := GEntry.enc) ae
  have pAe := fun (c : Int) (l : Heap) (S : Nat) (hh : l.set S (some ⟨0, 10, false, true, rws GEntry.enc ae⟩) = l) => hpm_all (enc := GEntry.enc) (sz := 10) (mk := GEntry.mkAt) (l := l) (S := S) (c := c) (ws := ae) hh
  have kAc := tkE (enc := GChunk.enc) (l := ac) rfl
  have lAc := rws_len (enc := GChunk.enc) ac
  have pAc := fun (c : Int) (l : Heap) (S : Nat) (hh : l.set S (some ⟨0, 6, false, true, rws GChunk.enc ac⟩) = l) => hpm_all (enc := GChunk.enc) (sz := 6) (mk := GChunk.mkAt) (l := l) (S := S) (c := c) (ws := ac) hh
  have bR1 := fr.h
  have bR2 := fr.l
  have bR3 := fr.e
  have bR4 := fr.c
  have eR := fun k => eqPgState k r0 r1 r2 r3 r4 r5 rh rl re r9 r10 rc (by omega) (by omega) (by omega) (by omega)
  have mR := fun k lv E S1 S2 S3 S4 hlv ga gb gc gd n1 n2 n3 n4 n5 n6 => markPgState k lv E r0 r1 r2 r3 r4 r5 rh rl re r9 r10 rc S1 S2 S3 S4 1 (by omega) hlv (by omega) (by omega) (by omega) (by omega) ga gb gc gd n1 n2 n3 n4 n5 n6
  have kRh := tkE (enc := GHead.enc) (l := rh) rfl
  have lRh := rws_len (enc := GHead.enc) rh
  have pRh := fun (c : Int) (l : Heap) (S : Nat) (hh : l.set S (some ⟨0, 5, false, true, rws GHead.enc rh⟩) = l) => hpm_all (enc := GHead.enc) (sz := 5) (mk := GHead.mkAt) (l := l) (S := S) (c := c) (ws := rh) hh
  have kRl := tkE (enc := GLast.enc) (l := rl) rfl
  have lRl := rws_len (enc := GLast.enc) rl
  have pRl := fun (c : Int) (l : Heap) (S : Nat) (hh : l.set S (some ⟨0, 4, false, true, rws GLast.enc rl⟩) = l) => hpm_all (enc := GLast.enc) (sz := 4) (mk := GLast.mkAt) (l := l) (S := S) (c := c) (ws := rl) hh
  have kRe := tkE (enc := GEntry.enc) (l := re) rfl
  have lRe := rws_len (enc := GEntry.enc) re
  have pRe := fun (c : Int) (l : Heap) (S : Nat) (hh : l.set S (some ⟨0, 10, false, true, rws GEntry.enc re⟩) = l) => hpm_all (enc := GEntry.enc) (sz := 10) (mk := GEntry.mkAt) (l := l) (S := S) (c := c) (ws := re) hh
  have kRc := tkE (enc := GChunk.enc) (l := rc) rfl
  have lRc := rws_len (enc := GChunk.enc) rc
  have pRc := fun (c : Int) (l : Heap) (S : Nat) (hh : l.set S (some ⟨0, 6, false, true, rws GChunk.enc rc⟩) = l) => hpm_all (enc := GChunk.enc) (sz := 6) (mk := GChunk.mkAt) (l := l) (S := S) (c := c) (ws := rc) hh
  have hh := fun k => heldPgState k r0 r1 r2 r3 r4 r5 rh.length rl.length re.length r9 r10 rc.length 1 (by omega) (by omega) (by omega) (by omega) (by omega)
  have qh := fun c n => tkE (enc := GHead.enc) (marks_len GHead.mkAt c n)
  have ql := fun c n => tkE (enc := GLast.enc) (marks_len GLast.mkAt c n)
  have qe := fun c n => tkE (enc := GEntry.enc) (marks_len GEntry.mkAt c n)
  have qc := fun c n => tkE (enc := GChunk.enc) (marks_len GChunk.mkAt c n)
  have d1 : decide (1 + 5 * (ah.length : Int) + 4 * al.length + 10 * ae.length + 6 * ac.length < 0) = false := by simp <;> omega
  have d3 : decide (1 + 5 * (rh.length : Int) + 4 * rl.length + 10 * re.length + 6 * rc.length < 0) = false := by simp <;> omega
  unfold resPS psV at *
  simp (maxSteps := 40000000) [F3, rcall12, z1, g1, rcall14, rcall13, hs, rcall15, hi, rcall16, rcall17, rcall18, hh, storeM, d1, d3, tA, eA, mA, kAh, lAh, pAh, kAl, lAl, pAl, kAe, lAe, pAe, kAc, lAc, pAc, eR, mR, kRh, lRh, pRh, kRl, lRl, pRl, kRe, lRe, pRe, kRc, lRc, pRc, qh, ql, qe, qc]
end Go.Ae.GA.B
namespace Go.Ae.GA.B
set_option linter.unusedSimpArgs false
set_option linter.unusedVariables false
theorem lawDropChunks (avs : List AV) (h : PFitsAll [(true, [.int .i64, .int .i64, .int .i64, .int .i64, .int .i64, .int .i64, .sl 48 [.str, .int .i64, .int .i64, .int .i64, .int .i64], .sl 32 [.int .i64, .int .i64, .int .i64, .int .i64], .sl 88 [.int .i64, .int .i64, .int .i64, .int .i64, .str, .bool, .int .i64, .int .i64, .int .i64, .int .i64], .int .i64, .int .i64, .sl 64 [.str, .int .i64, .int .i64, .int .i64, .int .i64, .str]]), (false, [.int .i64])] avs) : ∃ n bs e, call code n 3 avs [] = some ⟨.bool true, bs, e⟩ := by
  obtain ⟨v0, r, rfl, h0, h⟩ := h.cons_inv
  obtain ⟨v1, r, rfl, h1, h⟩ := h.cons_inv
  obtain rfl := h.nil_inv
  obtain ⟨cs, rfl, f0⟩ := h0.agg_inv
  obtain ⟨p0, p1, se, st, te, ts, hs, ls, es, fe, fs, ks, e1, x1, x2, x3, x5, x6, x7, x8⟩ := ps_inv f0
  obtain ⟨a, rfl, _⟩ := h1.one_inv.i64_inv
  rw [e1]
  exact ⟨_, _, _, law3 0 p0 p1 se st te ts hs ls es fe fs ks a x1 x2 x3 x5 x6 x7 x8⟩
end Go.Ae.GA.B
