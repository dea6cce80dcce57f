/- A state of all arguments. -/
import Derived.Test.YtiabjkihebhfkaaGreatHCP
import Derived.Test.YtiabjkihebhfkaaGreatAeL5
namespace Go.Ae.GA.B
set_option linter.unusedSimpArgs false
set_option linter.unusedVariables false
theorem ps_inv {cs : List AV} (f0 : FitsAll [.int .i64, .int .i64, .int .i64, .int .i64, .int .i64, .int .i64, .sl 48 [.str, .int .i64, .int .i64, .int .i64, .int .i64], .sl 32 [.int .i64, .int .i64, .int .i64, .int .i64], .sl 88 [.int .i64, .int .i64, .int .i64, .int .i64, .str, .bool, .int .i64, .int .i64, .int .i64, .int .i64], .int .i64, .int .i64, .sl 64 [.str, .int .i64, .int .i64, .int .i64, .int .i64, .str]] cs) : ∃ (p0 p1 se st te ts : Int) (hs : List GHead) (ls : List GLast) (es : List GEntry) (fe fs : Int) (ks : List GChunk), .agg cs = psV p0 p1 se st te ts hs ls es fe fs ks ∧
    hs.length ≤ 140737488351232 ∧ (∀ x ∈ hs, x.ok) ∧ ls.length ≤ 140737488351232 ∧ es.length ≤ 140737488351232 ∧ (∀ x ∈ es, x.ok) ∧ ks.length ≤ 140737488351232 ∧ (∀ x ∈ ks, x.ok) := by
  obtain ⟨_, _, rfl, c0, f0⟩ := f0.cons_inv
  obtain ⟨_, _, rfl, c1, f0⟩ := f0.cons_inv
  obtain ⟨_, _, rfl, c2, f0⟩ := f0.cons_inv
  obtain ⟨_, _, rfl, c3, f0⟩ := f0.cons_inv
  obtain ⟨_, _, rfl, c4, f0⟩ := f0.cons_inv
  obtain ⟨_, _, rfl, c5, f0⟩ := f0.cons_inv
  obtain ⟨_, _, rfl, c6, f0⟩ := f0.cons_inv
  obtain ⟨_, _, rfl, c7, f0⟩ := f0.cons_inv
  obtain ⟨_, _, rfl, c8, f0⟩ := f0.cons_inv
  obtain ⟨_, _, rfl, c9, f0⟩ := f0.cons_inv
  obtain ⟨_, _, rfl, c10, f0⟩ := f0.cons_inv
  obtain ⟨_, _, rfl, c11, f0⟩ := f0.cons_inv
  obtain rfl := f0.nil_inv
  obtain ⟨v0, rfl, _⟩ := c0.i64_inv
  obtain ⟨v1, rfl, _⟩ := c1.i64_inv
  obtain ⟨v2, rfl, _⟩ := c2.i64_inv
  obtain ⟨v3, rfl, _⟩ := c3.i64_inv
  obtain ⟨v4, rfl, _⟩ := c4.i64_inv
  obtain ⟨v5, rfl, _⟩ := c5.i64_inv
  obtain ⟨v9, rfl, _⟩ := c9.i64_inv
  obtain ⟨v10, rfl, _⟩ := c10.i64_inv
  obtain ⟨xs6, rfl, l6, r6⟩ := c6.sl_inv
  obtain ⟨hs, rfl, o6⟩ := fitHeadS r6
  rw [rws_len] at l6
  obtain ⟨xs7, rfl, l7, r7⟩ := c7.sl_inv
  obtain ⟨ls, rfl, o7⟩ := fitLastS r7
  rw [rws_len] at l7
  obtain ⟨xs8, rfl, l8, r8⟩ := c8.sl_inv
  obtain ⟨es, rfl, o8⟩ := fitEntryS r8
  rw [rws_len] at l8
  obtain ⟨xs11, rfl, l11, r11⟩ := c11.sl_inv
  obtain ⟨ks, rfl, o11⟩ := fitChunkS r11
  rw [rws_len] at l11
  exact ⟨v0, v1, v2, v3, v4, v5, hs, ls, es, v9, v10, ks, rfl, by omega, o6, by omega, by omega, o8, by omega, o11⟩
end Go.Ae.GA.B
namespace Go.Ae.GA.B
set_option linter.unusedSimpArgs false
set_option linter.unusedVariables false
theorem wsum_mem {α : Type} {w : α → Nat} {l : List α} {x : α} (h : x ∈ l) : w x ≤ wsum w l := by
  induction l with
  | nil => cases h
  | cons a r ih =>
    unfold wsum at *
    rw [List.map_cons, List.sum_cons]
    rcases List.mem_cons.1 h with rfl | h
    · omega
    · have := ih h; omega
theorem h_names {hs : List GHead} {n : Nat} (h : wsum GHead.wt hs ≤ n) : ∀ c ∈ hs, c.Name.size ≤ n := fun c hc => Nat.le_trans (wsum_mem (w := GHead.wt) hc) h
theorem e_names {hs : List GEntry} {n : Nat} (h : wsum GEntry.wt hs ≤ n) : ∀ c ∈ hs, c.Name.size ≤ n := fun c hc => Nat.le_trans (wsum_mem (w := GEntry.wt) hc) h
theorem c_names {hs : List GChunk} {n : Nat} (h : wsum GChunk.wt hs ≤ n) : ∀ c ∈ hs, c.Name.size ≤ n := fun c hc => by
  have h1 := wsum_mem (w := GChunk.wt) hc
  have h2 : c.Name.size ≤ GChunk.wt c := by unfold GChunk.wt; omega
  omega
/-- Lengths that the sizes allow. -/
structure Few (hs : List GHead) (ls : List GLast) (es : List GEntry) (cs : List GChunk) : Prop where
  h : hs.length ≤ 1048576
  l : ls.length ≤ 1048576
  e : es.length ≤ 1048576
  c : cs.length ≤ 1048576
  hn : ∀ c ∈ hs, c.Name.size ≤ 1048576
  en : ∀ c ∈ es, c.Name.size ≤ 1048576
  cn : ∀ c ∈ cs, c.Name.size ≤ 1048576
theorem few_of {hs : List GHead} {ls : List GLast} {es : List GEntry} {cs : List GChunk} (h : (hs.length + wsum GHead.wt hs) + ls.length + (es.length + wsum GEntry.wt es) + (cs.length + wsum GChunk.wt cs) ≤ 1048576) : Few hs ls es cs :=
  ⟨by omega, by omega, by omega, by omega, h_names (by omega), e_names (by omega), c_names (by omega)⟩
theorem few_nil : Few [] [] [] [] := ⟨by simp, by simp, by simp, by simp, by simp, by simp, by simp⟩
end Go.Ae.GA.B
