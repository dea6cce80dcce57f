/- A state copied; a log taken over. -/
import Derived.Test.YtgndkjddglehgaaGAM6
import Derived.Test.YtgndkjddglehgaaAeL6
import Derived.Test.YtgndkjddglehgaaAeL5
namespace Go.Ae.GA
set_option linter.unusedSimpArgs false
set_option linter.unusedVariables false
abbrev resPS (p0 p1 se st te ts : Int) (hs : List GHead) (ls : List GLast) (es : List GEntry) (fe fs : Int) (cs : List GChunk) : Res :=
  ⟨.agg [.int .i64 p0, .int .i64 p1, .int .i64 se, .int .i64 st, .int .i64 te, .int .i64 ts, .sl 0 0 0 [] 0 hs.length, .sl 0 1 0 [] 0 ls.length, .sl 0 2 0 [] 0 es.length, .int .i64 fe, .int .i64 fs, .sl 0 3 0 [] 0 cs.length],
   [⟨0, 5, false, true, rws GHead.enc hs⟩, ⟨0, 4, false, true, rws GLast.enc ls⟩, ⟨0, 10, false, true, rws GEntry.enc es⟩, ⟨0, 6, false, true, rws GChunk.enc cs⟩], []⟩
theorem cloneH (k : Nat) (hs : List GHead) (hn : hs.length ≤ 1048576) : call code (k + 1) 94 [.rd true (rws GHead.enc hs)] [] = some ⟨.sl 0 0 0 [] 0 hs.length, [⟨0, 5, false, true, rws GHead.enc hs⟩], []⟩ :=
  clone_ok (enc := GHead.enc) (sz := 5) (bytes := 48) (zero := [.str ByteArray.empty, .int .i64 0, .int .i64 0, .int .i64 0, .int .i64 0]) rfl rfl (fun _ => rfl) (by omega) rfl rfl hs (by omega) (by omega) k
theorem cloneL (k : Nat) (ls : List GLast) (hn : ls.length ≤ 1048576) : call code (k + 1) 95 [.rd true (rws GLast.enc ls)] [] = some ⟨.sl 0 0 0 [] 0 ls.length, [⟨0, 4, false, true, rws GLast.enc ls⟩], []⟩ :=
  clone_ok (enc := GLast.enc) (sz := 4) (bytes := 32) (zero := [.int .i64 0, .int .i64 0, .int .i64 0, .int .i64 0]) rfl rfl (fun _ => rfl) (by omega) rfl rfl ls (by omega) (by omega) k
theorem cloneE (k : Nat) (es : List GEntry) (hn : es.length ≤ 1048576) : call code (k + 1) 96 [.rd true (rws GEntry.enc es)] [] = some ⟨.sl 0 0 0 [] 0 es.length, [⟨0, 10, false, true, rws GEntry.enc es⟩], []⟩ :=
  clone_ok (enc := GEntry.enc) (sz := 10) (bytes := 88) (zero := [.int .i64 0, .int .i64 0, .int .i64 0, .int .i64 0, .str ByteArray.empty, .bool false, .int .i64 0, .int .i64 0, .int .i64 0, .int .i64 0]) rfl rfl (fun _ => rfl) (by omega) rfl rfl es (by omega) (by omega) k
theorem cloneC (k : Nat) (cs : List GChunk) (hn : cs.length ≤ 1048576) : call code (k + 1) 97 [.rd true (rws GChunk.enc cs)] [] = some ⟨.sl 0 0 0 [] 0 cs.length, [⟨0, 6, false, true, rws GChunk.enc cs⟩], []⟩ :=
  clone_ok (enc := GChunk.enc) (sz := 6) (bytes := 64) (zero := [.str ByteArray.empty, .int .i64 0, .int .i64 0, .int .i64 0, .int .i64 0, .str ByteArray.empty]) rfl rfl (fun _ => rfl) (by omega) rfl rfl cs (by omega) (by omega) k
set_option maxRecDepth 100000 in
set_option maxHeartbeats 64000000 in
theorem clone (k : Nat) (p0 p1 se st te ts : Int) (hs : List GHead) (ls : List GLast) (es : List GEntry) (fe fs : Int) (cs : List GChunk) (b1 : hs.length ≤ 1048576) (b2 : ls.length ≤ 1048576) (b3 : es.length ≤ 1048576) (b4 : cs.length ≤ 1048576) :
    call code (k + 2) 72 [psV p0 p1 se st te ts hs ls es fe fs cs] [] = some (resPS p0 p1 se st te ts hs ls es fe fs cs) := by
  refine call_run rfl fn72 rfl ?_
  have c1 := fun k => cloneH k hs b1
  have c2 := fun k => cloneL k ls b2
  have c3 := fun k => cloneE k es b3
  have c4 := fun k => cloneC k cs b4
  have l1 := rws_len (enc := GHead.enc) hs
  have l2 := rws_len (enc := GLast.enc) ls
  have l3 := rws_len (enc := GEntry.enc) es
  have l4 := rws_len (enc := GChunk.enc) cs
  have k1 := tkE (enc := GHead.enc) (l := hs) rfl
  have k2 := tkE (enc := GLast.enc) (l := ls) rfl
  have k3 := tkE (enc := GEntry.enc) (l := es) rfl
  have k4 := tkE (enc := GChunk.enc) (l := cs) rfl
  unfold psV resPS
  generalize rws GHead.enc hs = R1 at *
  generalize rws GLast.enc ls = R2 at *
  generalize rws GEntry.enc es = R3 at *
  generalize rws GChunk.enc cs = R4 at *
  simp [F72, rcall94, rcall95, rcall96, rcall97, c1, c2, c3, c4, storeM, l1, l2, l3, l4, k1, k2, k3, k4]
theorem rowsL {α : Type} {enc : α → List AV} {n : Nat} (h : ∀ x, (enc x).length = n) (l : List α) : ∀ y ∈ rws enc l, y.length = n := fun y hy => by
  simp only [rws, List.mem_map] at hy
  obtain ⟨x, _, rfl⟩ := hy
  exact h x
set_option maxRecDepth 100000 in
set_option maxHeartbeats 64000000 in
theorem l17Copy (k : Nat) (p0 p1 se st te ts : Int) (hs : List GHead) (ls : List GLast) (es : List GEntry) (fe fs : Int) (cs : List GChunk) (b1 : hs.length ≤ 1048576) (b2 : ls.length ≤ 1048576) (b3 : es.length ≤ 1048576) (b4 : cs.length ≤ 1048576) :
    call code (k + 2) 21 [psV p0 p1 se st te ts hs ls es fe fs cs] [] = some (resPS p0 p1 se st te ts hs ls es fe fs cs) := by
  refine call_run rfl fn21 rfl ?_
  have l1 := rws_len (enc := GHead.enc) hs
  have l2 := rws_len (enc := GLast.enc) ls
  have l3 := rws_len (enc := GEntry.enc) es
  have l4 := rws_len (enc := GChunk.enc) cs
  have k1 := tkE (enc := GHead.enc) (l := hs) rfl
  have k2 := tkE (enc := GLast.enc) (l := ls) rfl
  have k3 := tkE (enc := GEntry.enc) (l := es) rfl
  have k4 := tkE (enc := GChunk.enc) (l := cs) rfl
  have r1 := rowsL (enc := GHead.enc) (n := 5) (fun _ => rfl) hs
  have r2 := rowsL (enc := GLast.enc) (n := 4) (fun _ => rfl) ls
  have r3 := rowsL (enc := GEntry.enc) (n := 10) (fun _ => rfl) es
  have r4 := rowsL (enc := GChunk.enc) (n := 6) (fun _ => rfl) cs
  unfold psV resPS
  generalize rws GHead.enc hs = R1 at *
  generalize rws GLast.enc ls = R2 at *
  generalize rws GEntry.enc es = R3 at *
  generalize rws GChunk.enc cs = R4 at *
  simp [F21, storeM, evalW, source, l1, l2, l3, l4, k1, k2, k3, k4]
  repeat' apply And.intro
  all_goals first | exact r1 | exact r2 | exact r3 | exact r4 | omega | rfl
end Go.Ae.GA
namespace Go.Ae.GA
set_option linter.unusedSimpArgs false
set_option linter.unusedVariables false
end Go.Ae.GA
namespace Go.Ae.GA
set_option linter.unusedSimpArgs false
set_option linter.unusedVariables false
end Go.Ae.GA
namespace Go.Ae.GA
set_option linter.unusedSimpArgs false
set_option linter.unusedVariables false
theorem wsum_mem {α : Type} {w : α → Nat} {l : List α} {x : α} (h : x ∈ l) : w x ≤ wsum w l := by
  induction l with
  | nil => cases h
  | cons a r ih =>
    unfold wsum at *
    rw [List.map_cons, List.sum_cons]
    rcases List.mem_cons.1 h with rfl | h
    · omega
    · have := ih h; omega
theorem h_names {hs : List GHead} {n : Nat} (h : wsum GHead.wt hs ≤ n) : ∀ c ∈ hs, c.Name.size ≤ n := fun c hc => Nat.le_trans (wsum_mem (w := GHead.wt) hc) h
theorem e_names {hs : List GEntry} {n : Nat} (h : wsum GEntry.wt hs ≤ n) : ∀ c ∈ hs, c.Name.size ≤ n := fun c hc => Nat.le_trans (wsum_mem (w := GEntry.wt) hc) h
theorem c_names {hs : List GChunk} {n : Nat} (h : wsum GChunk.wt hs ≤ n) : ∀ c ∈ hs, c.Name.size ≤ n := fun c hc => by
  have h1 := wsum_mem (w := GChunk.wt) hc
  have h2 : c.Name.size ≤ GChunk.wt c := by unfold GChunk.wt; omega
  omega
/-- Lengths that the sizes allow. -/
structure Few (hs : List GHead) (ls : List GLast) (es : List GEntry) (cs : List GChunk) : Prop where
  h : hs.length ≤ 1048576
  l : ls.length ≤ 1048576
  e : es.length ≤ 1048576
  c : cs.length ≤ 1048576
  hn : ∀ c ∈ hs, c.Name.size ≤ 1048576
  en : ∀ c ∈ es, c.Name.size ≤ 1048576
  cn : ∀ c ∈ cs, c.Name.size ≤ 1048576
theorem few_of {hs : List GHead} {ls : List GLast} {es : List GEntry} {cs : List GChunk} (h : (hs.length + wsum GHead.wt hs) + ls.length + (es.length + wsum GEntry.wt es) + (cs.length + wsum GChunk.wt cs) ≤ 1048576) : Few hs ls es cs :=
  ⟨by omega, by omega, by omega, by omega, h_names (by omega), e_names (by omega), c_names (by omega)⟩
theorem few_nil : Few [] [] [] [] := ⟨by simp, by simp, by simp, by simp, by simp, by simp, by simp⟩
end Go.Ae.GA
namespace Go.Ae.GA
set_option linter.unusedSimpArgs false
set_option linter.unusedVariables false
end Go.Ae.GA
namespace Go.Ae.GA
set_option linter.unusedSimpArgs false
set_option linter.unusedVariables false
theorem ps_inv {cs : List AV} (f0 : FitsAll [.int .i64, .int .i64, .int .i64, .int .i64, .int .i64, .int .i64, .sl 48 [.str, .int .i64, .int .i64, .int .i64, .int .i64], .sl 32 [.int .i64, .int .i64, .int .i64, .int .i64], .sl 88 [.int .i64, .int .i64, .int .i64, .int .i64, .str, .bool, .int .i64, .int .i64, .int .i64, .int .i64], .int .i64, .int .i64, .sl 64 [.str, .int .i64, .int .i64, .int .i64, .int .i64, .str]] cs) : ∃ (p0 p1 se st te ts : Int) (hs : List GHead) (ls : List GLast) (es : List GEntry) (fe fs : Int) (ks : List GChunk), .agg cs = psV p0 p1 se st te ts hs ls es fe fs ks ∧
    hs.length ≤ 140737488351232 ∧ (∀ x ∈ hs, x.ok) ∧ ls.length ≤ 140737488351232 ∧ es.length ≤ 140737488351232 ∧ (∀ x ∈ es, x.ok) ∧ ks.length ≤ 140737488351232 ∧ (∀ x ∈ ks, x.ok) := by
  obtain ⟨_, _, rfl, c0, f0⟩ := f0.cons_inv
  obtain ⟨_, _, rfl, c1, f0⟩ := f0.cons_inv
  obtain ⟨_, _, rfl, c2, f0⟩ := f0.cons_inv
  obtain ⟨_, _, rfl, c3, f0⟩ := f0.cons_inv
  obtain ⟨_, _, rfl, c4, f0⟩ := f0.cons_inv
  obtain ⟨_, _, rfl, c5, f0⟩ := f0.cons_inv
  obtain ⟨_, _, rfl, c6, f0⟩ := f0.cons_inv
  obtain ⟨_, _, rfl, c7, f0⟩ := f0.cons_inv
  obtain ⟨_, _, rfl, c8, f0⟩ := f0.cons_inv
  obtain ⟨_, _, rfl, c9, f0⟩ := f0.cons_inv
  obtain ⟨_, _, rfl, c10, f0⟩ := f0.cons_inv
  obtain ⟨_, _, rfl, c11, f0⟩ := f0.cons_inv
  obtain rfl := f0.nil_inv
  obtain ⟨v0, rfl, _⟩ := c0.i64_inv
  obtain ⟨v1, rfl, _⟩ := c1.i64_inv
  obtain ⟨v2, rfl, _⟩ := c2.i64_inv
  obtain ⟨v3, rfl, _⟩ := c3.i64_inv
  obtain ⟨v4, rfl, _⟩ := c4.i64_inv
  obtain ⟨v5, rfl, _⟩ := c5.i64_inv
  obtain ⟨v9, rfl, _⟩ := c9.i64_inv
  obtain ⟨v10, rfl, _⟩ := c10.i64_inv
  obtain ⟨xs6, rfl, l6, r6⟩ := c6.sl_inv
  obtain ⟨hs, rfl, o6⟩ := fitHeadS r6
  rw [rws_len] at l6
  obtain ⟨xs7, rfl, l7, r7⟩ := c7.sl_inv
  obtain ⟨ls, rfl, o7⟩ := fitLastS r7
  rw [rws_len] at l7
  obtain ⟨xs8, rfl, l8, r8⟩ := c8.sl_inv
  obtain ⟨es, rfl, o8⟩ := fitEntryS r8
  rw [rws_len] at l8
  obtain ⟨xs11, rfl, l11, r11⟩ := c11.sl_inv
  obtain ⟨ks, rfl, o11⟩ := fitChunkS r11
  rw [rws_len] at l11
  exact ⟨v0, v1, v2, v3, v4, v5, hs, ls, es, v9, v10, ks, rfl, by omega, o6, by omega, by omega, o8, by omega, o11⟩
end Go.Ae.GA
