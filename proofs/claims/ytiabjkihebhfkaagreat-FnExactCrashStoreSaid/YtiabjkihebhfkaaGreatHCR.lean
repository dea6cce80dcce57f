/- A state copied; a log taken over. -/
import Derived.Test.YtiabjkihebhfkaaGreatHCP
import Derived.Test.YtiabjkihebhfkaaGreatAeL6
namespace Go.Ae.GA.B
set_option linter.unusedSimpArgs false
set_option linter.unusedVariables false
abbrev resPS (p0 p1 se st te ts : Int) (hs : List GHead) (ls : List GLast) (es : List GEntry) (fe fs : Int) (cs : List GChunk) : Res :=
  ⟨.agg [.int .i64 p0, .int .i64 p1, .int .i64 se, .int .i64 st, .int .i64 te, .int .i64 ts, .sl 0 0 0 [] 0 hs.length, .sl 0 1 0 [] 0 ls.length, .sl 0 2 0 [] 0 es.length, .int .i64 fe, .int .i64 fs, .sl 0 3 0 [] 0 cs.length],
   [⟨0, 5, false, true, rws GHead.enc hs⟩, ⟨0, 4, false, true, rws GLast.enc ls⟩, ⟨0, 10, false, true, rws GEntry.enc es⟩, ⟨0, 6, false, true, rws GChunk.enc cs⟩], []⟩
theorem cloneH (k : Nat) (hs : List GHead) (hn : hs.length ≤ 1048576) : call code (k + 1) 178 [.rd true (rws GHead.enc hs)] [] = some ⟨.sl 0 0 0 [] 0 hs.length, [⟨0, 5, false, true, rws GHead.enc hs⟩], []⟩ :=
  clone_ok (enc := GHead.enc) (sz := 5) (bytes := 48) (zero := [.str ByteArray.empty, .int .i64 0, .int .i64 0, .int .i64 0, .int .i64 0]) rfl rfl (fun _ => rfl) (by omega) rfl rfl hs (by omega) (by omega) k
theorem cloneL (k : Nat) (ls : List GLast) (hn : ls.length ≤ 1048576) : call code (k + 1) 182 [.rd true (rws GLast.enc ls)] [] = some ⟨.sl 0 0 0 [] 0 ls.length, [⟨0, 4, false, true, rws GLast.enc ls⟩], []⟩ :=
  clone_ok (enc := GLast.enc) (sz := 4) (bytes := 32) (zero := [.int .i64 0, .int .i64 0, .int .i64 0, .int .i64 0]) rfl rfl (fun _ => rfl) (by omega) rfl rfl ls (by omega) (by omega) k
theorem cloneE (k : Nat) (es : List GEntry) (hn : es.length ≤ 1048576) : call code (k + 1) 189 [.rd true (rws GEntry.enc es)] [] = some ⟨.sl 0 0 0 [] 0 es.length, [⟨0, 10, false, true, rws GEntry.enc es⟩], []⟩ :=
  clone_ok (enc := GEntry.enc) (sz := 10) (bytes := 88) (zero := [.int .i64 0, .int .i64 0, .int .i64 0, .int .i64 0, .str ByteArray.empty, .bool false, .int .i64 0, .int .i64 0, .int .i64 0, .int .i64 0]) rfl rfl (fun _ => rfl) (by omega) rfl rfl es (by omega) (by omega) k
theorem cloneC (k : Nat) (cs : List GChunk) (hn : cs.length ≤ 1048576) : call code (k + 1) 208 [.rd true (rws GChunk.enc cs)] [] = some ⟨.sl 0 0 0 [] 0 cs.length, [⟨0, 6, false, true, rws GChunk.enc cs⟩], []⟩ :=
  clone_ok (enc := GChunk.enc) (sz := 6) (bytes := 64) (zero := [.str ByteArray.empty, .int .i64 0, .int .i64 0, .int .i64 0, .int .i64 0, .str ByteArray.empty]) rfl rfl (fun _ => rfl) (by omega) rfl rfl cs (by omega) (by omega) k
set_option maxRecDepth 100000 in
set_option maxHeartbeats 64000000 in
theorem clone (k : Nat) (p0 p1 se st te ts : Int) (hs : List GHead) (ls : List GLast) (es : List GEntry) (fe fs : Int) (cs : List GChunk) (b1 : hs.length ≤ 1048576) (b2 : ls.length ≤ 1048576) (b3 : es.length ≤ 1048576) (b4 : cs.length ≤ 1048576) :
    call code (k + 2) 147 [psV p0 p1 se st te ts hs ls es fe fs cs] [] = some (resPS p0 p1 se st te ts hs ls es fe fs cs) := by
  refine call_run rfl fn147 rfl ?_
  have c1 := fun k => cloneH k hs b1
  have c2 := fun k => cloneL k ls b2
  have c3 := fun k => cloneE k es b3
  have c4 := fun k => cloneC k cs b4
  have l1 := rws_len (enc := GHead.enc) hs
  have l2 := rws_len (enc := GLast.enc) ls
  have l3 := rws_len (enc := GEntry.enc) es
  have l4 := rws_len (enc := GChunk.enc) cs
  have k1 := tkE (enc := GHead.enc) (l := hs) rfl
  have k2 := tkE (enc := GLast.enc) (l := ls) rfl
  have k3 := tkE (enc := GEntry.enc) (l := es) rfl
  have k4 := tkE (enc := GChunk.enc) (l := cs) rfl
  unfold psV resPS
  generalize rws GHead.enc hs = R1 at *
  generalize rws GLast.enc ls = R2 at *
  generalize rws GEntry.enc es = R3 at *
  generalize rws GChunk.enc cs = R4 at *
  simp [F147, rcall178, rcall182, rcall189, rcall208, c1, c2, c3, c4, storeM, l1, l2, l3, l4, k1, k2, k3, k4]
theorem rowsL {α : Type} {enc : α → List AV} {n : Nat} (h : ∀ x, (enc x).length = n) (l : List α) : ∀ y ∈ rws enc l, y.length = n := fun y hy => by
  simp only [rws, List.mem_map] at hy
  obtain ⟨x, _, rfl⟩ := hy
  exact h x
set_option maxRecDepth 100000 in
set_option maxHeartbeats 64000000 in
theorem l17Copy (k : Nat) (p0 p1 se st te ts : Int) (hs : List GHead) (ls : List GLast) (es : List GEntry) (fe fs : Int) (cs : List GChunk) (b1 : hs.length ≤ 1048576) (b2 : ls.length ≤ 1048576) (b3 : es.length ≤ 1048576) (b4 : cs.length ≤ 1048576) :
    call code (k + 2) 59 [psV p0 p1 se st te ts hs ls es fe fs cs] [] = some (resPS p0 p1 se st te ts hs ls es fe fs cs) := by
  refine call_run rfl fn59 rfl ?_
  have l1 := rws_len (enc := GHead.enc) hs
  have l2 := rws_len (enc := GLast.enc) ls
  have l3 := rws_len (enc := GEntry.enc) es
  have l4 := rws_len (enc := GChunk.enc) cs
  have k1 := tkE (enc := GHead.enc) (l := hs) rfl
  have k2 := tkE (enc := GLast.enc) (l := ls) rfl
  have k3 := tkE (enc := GEntry.enc) (l := es) rfl
  have k4 := tkE (enc := GChunk.enc) (l := cs) rfl
  have r1 := rowsL (enc := GHead.enc) (n := 5) (fun _ => rfl) hs
  have r2 := rowsL (enc := GLast.enc) (n := 4) (fun _ => rfl) ls
  have r3 := rowsL (enc := GEntry.enc) (n := 10) (fun _ => rfl) es
  have r4 := rowsL (enc := GChunk.enc) (n := 6) (fun _ => rfl) cs
  unfold psV resPS
  generalize rws GHead.enc hs = R1 at *
  generalize rws GLast.enc ls = R2 at *
  generalize rws GEntry.enc es = R3 at *
  generalize rws GChunk.enc cs = R4 at *
  simp [F59, storeM, evalW, source, l1, l2, l3, l4, k1, k2, k3, k4]
  repeat' apply And.intro
  all_goals first | exact r1 | exact r2 | exact r3 | exact r4 | omega | rfl
end Go.Ae.GA.B
