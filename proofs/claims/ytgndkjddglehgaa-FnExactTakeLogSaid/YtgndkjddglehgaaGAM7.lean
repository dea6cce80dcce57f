/- A state copied; a log taken over. -/
import Derived.Test.YtgndkjddglehgaaGAM6
import Derived.Test.YtgndkjddglehgaaAeL6
import Derived.Test.YtgndkjddglehgaaAeL5
namespace Go.Ae.GA
set_option linter.unusedSimpArgs false
set_option linter.unusedVariables false
abbrev resPS (p0 p1 se st te ts : Int) (hs : List GHead) (ls : List GLast) (es : List GEntry) (fe fs : Int) (cs : List GChunk) : Res :=
  ⟨.agg [.int .i64 p0, .int .i64 p1, .int .i64 se, .int .i64 st, .int .i64 te, .int .i64 ts, .sl 0 0 0 [] 0 hs.length, .sl 0 1 0 [] 0 ls.length, .sl 0 2 0 [] 0 es.length, .int .i64 fe, .int .i64 fs, .sl 0 3 0 [] 0 cs.length],
   [⟨0, 5, false, true, rws GHead.enc hs⟩, ⟨0, 4, false, true, rws GLast.enc ls⟩, ⟨0, 10, false, true, rws GEntry.enc es⟩, ⟨0, 6, false, true, rws GChunk.enc cs⟩], []⟩
theorem cloneH (k : Nat) (hs : List GHead) (hn : hs.length ≤ 1048576) : call code (k + 1) 94 [.rd true (rws GHead.enc hs)] [] = some ⟨.sl 0 0 0 [] 0 hs.length, [⟨0, 5, false, true, rws GHead.enc hs⟩], []⟩ :=
  clone_ok (enc := GHead.enc) (sz := 5) (bytes := 48) (zero := [.str ByteArray.empty, .int .i64 0, .int .i64 0, .int .i64 0, .int .i64 0]) rfl rfl (fun _ => rfl) (by omega) rfl rfl hs (by omega) (by omega) k
theorem cloneL (k : Nat) (ls : List GLast) (hn : ls.length ≤ 1048576) : call code (k + 1) 95 [.rd true (rws GLast.enc ls)] [] = some ⟨.sl 0 0 0 [] 0 ls.length, [⟨0, 4, false, true, rws GLast.enc ls⟩], []⟩ :=
  clone_ok (enc := GLast.enc) (sz := 4) (bytes := 32) (zero := [.int .i64 0, .int .i64 0, .int .i64 0, .int .i64 0]) rfl rfl (fun _ => rfl) (by omega) rfl rfl ls (by omega) (by omega) k
theorem cloneE (k : Nat) (es : List GEntry) (hn : es.length ≤ 1048576) : call code (k + 1) 96 [.rd true (rws GEntry.enc es)] [] = some ⟨.sl 0 0 0 [] 0 es.length, [⟨0, 10, false, true, rws GEntry.enc es⟩], []⟩ :=
  clone_ok (enc := GEntry.enc) (sz := 10) (bytes := 88) (zero := [.int .i64 0, .int .i64 0, .int .i64 0, .int .i64 0, .str ByteArray.empty, .bool false, .int .i64 0, .int .i64 0, .int .i64 0, .int .i64 0]) rfl rfl (fun _ => rfl) (by omega) rfl rfl es (by omega) (by omega) k
theorem cloneC (k : Nat) (cs : List GChunk) (hn : cs.length ≤ 1048576) : call code (k + 1) 97 [.rd true (rws GChunk.enc cs)] [] = some ⟨.sl 0 0 0 [] 0 cs.length, [⟨0, 6, false, true, rws GChunk.enc cs⟩], []⟩ :=
  clone_ok (enc := GChunk.enc) (sz := 6) (bytes := 64) (zero := [.str ByteArray.empty, .int .i64 0, .int .i64 0, .int .i64 0, .int .i64 0, .str ByteArray.empty]) rfl rfl (fun _ => rfl) (by omega) rfl rfl cs (by omega) (by omega) k
set_option maxRecDepth 100000 in
set_option maxHeartbeats 64000000 in
theorem clone (k : Nat) (p0 p1 se st te ts : Int) (hs : List GHead) (ls : List GLast) (es : List GEntry) (fe fs : Int) (cs : List GChunk) (b1 : hs.length ≤ 1048576) (b2 : ls.length ≤ 1048576) (b3 : es.length ≤ 1048576) (b4 : cs.length ≤ 1048576) :
    call code (k + 2) 72 [psV p0 p1 se st te ts hs ls es fe fs cs] [] = some (resPS p0 p1 se st te ts hs ls es fe fs cs) := by
  refine call_run rfl fn72 rfl ?_
  have c1 := fun k => cloneH k hs b1
  have c2 := fun k => cloneL k ls b2
  have c3 := fun k => cloneE k es b3
  have c4 := fun k => cloneC k cs b4
  have l1 := rws_len (enc := GHead.enc) hs
  have l2 := rws_len (enc := GLast.enc) ls
  have l3 := rws_len (enc := GEntry.enc) es
  have l4 := rws_len (enc := GChunk.enc) cs
  have k1 := tkE (enc := GHead.enc) (l := hs) rfl
  have k2 := tkE (enc := GLast.enc) (l := ls) rfl
  have k3 := tkE (enc := GEntry.enc) (l := es) rfl
  have k4 := tkE (enc := GChunk.enc) (l := cs) rfl
  unfold psV resPS
  generalize rws GHead.enc hs = R1 at *
  generalize rws GLast.enc ls = R2 at *
  generalize rws GEntry.enc es = R3 at *
  generalize rws GChunk.enc cs = R4 at *
  simp [F72, rcall94, rcall95, rcall96, rcall97, c1, c2, c3, c4, storeM, l1, l2, l3, l4, k1, k2, k3, k4]
theorem rowsL {α : Type} {enc : α → List AV} {n : Nat} (h : ∀ x, (enc x).length = n) (l : List α) : ∀ y ∈ rws enc l, y.length = n := fun y hy => by
  simp only [rws, List.mem_map] at hy
  obtain ⟨x, _, rfl⟩ := hy
  exact h x
set_option maxRecDepth 100000 in
set_option maxHeartbeats 64000000 in
theorem l17Copy (k : Nat) (p0 p1 se st te ts : Int) (hs : List GHead) (ls : List GLast) (es : List GEntry) (fe fs : Int) (cs : List GChunk) (b1 : hs.length ≤ 1048576) (b2 : ls.length ≤ 1048576) (b3 : es.length ≤ 1048576) (b4 : cs.length ≤ 1048576) :
    call code (k + 2) 21 [psV p0 p1 se st te ts hs ls es fe fs cs] [] = some (resPS p0 p1 se st te ts hs ls es fe fs cs) := by
  refine call_run rfl fn21 rfl ?_
  have l1 := rws_len (enc := GHead.enc) hs
  have l2 := rws_len (enc := GLast.enc) ls
  have l3 := rws_len (enc := GEntry.enc) es
  have l4 := rws_len (enc := GChunk.enc) cs
  have k1 := tkE (enc := GHead.enc) (l := hs) rfl
  have k2 := tkE (enc := GLast.enc) (l := ls) rfl
  have k3 := tkE (enc := GEntry.enc) (l := es) rfl
  have k4 := tkE (enc := GChunk.enc) (l := cs) rfl
  have r1 := rowsL (enc := GHead.enc) (n := 5) (fun _ => rfl) hs
  have r2 := rowsL (enc := GLast.enc) (n := 4) (fun _ => rfl) ls
  have r3 := rowsL (enc := GEntry.enc) (n := 10) (fun _ => rfl) es
  have r4 := rowsL (enc := GChunk.enc) (n := 6) (fun _ => rfl) cs
  unfold psV resPS
  generalize rws GHead.enc hs = R1 at *
  generalize rws GLast.enc ls = R2 at *
  generalize rws GEntry.enc es = R3 at *
  generalize rws GChunk.enc cs = R4 at *
  simp [F21, storeM, evalW, source, l1, l2, l3, l4, k1, k2, k3, k4]
  repeat' apply And.intro
  all_goals first | exact r1 | exact r2 | exact r3 | exact r4 | omega | rfl
end Go.Ae.GA
namespace Go.Ae.GA
set_option linter.unusedSimpArgs false
set_option linter.unusedVariables false
set_option maxRecDepth 100000 in
set_option maxHeartbeats 64000000 in
theorem taking (k : Nat) (p0 p1 se st te ts : Int) (hs : List GHead) (ls : List GLast) (es : List GEntry) (fe fs : Int) (cs : List GChunk) (q0 q1 ue ut we ws : Int) (hs' : List GHead) (ls' : List GLast) (es' : List GEntry) (ge gs : Int) (cs' : List GChunk)
    (b1 : hs.length ≤ 1048576) (b2 : ls.length ≤ 1048576) (b3 : es.length ≤ 1048576) (b4 : cs.length ≤ 1048576) (d1 : hs'.length ≤ 1048576) (d2 : ls'.length ≤ 1048576) (d3 : es'.length ≤ 1048576) (d4 : cs'.length ≤ 1048576) :
    call code (k + 3) 29 [psV p0 p1 se st te ts hs ls es fe fs cs, psV q0 q1 ue ut we ws hs' ls' es' ge gs cs'] [] = some (resPS p0 p1 se st we ws hs' ls' es' ge gs cs) := by
  refine call_run rfl fn29 rfl ?_
  have c1 := fun k => clone k p0 p1 se st te ts hs ls es fe fs cs b1 b2 b3 b4
  have c2 := fun k => clone k q0 q1 ue ut we ws hs' ls' es' ge gs cs' d1 d2 d3 d4
  have l4 := rws_len (enc := GChunk.enc) cs
  have k4 := tkE (enc := GChunk.enc) (l := cs) rfl
  have l1' := rws_len (enc := GHead.enc) hs'
  have l2' := rws_len (enc := GLast.enc) ls'
  have l3' := rws_len (enc := GEntry.enc) es'
  have k1' := tkE (enc := GHead.enc) (l := hs') rfl
  have k2' := tkE (enc := GLast.enc) (l := ls') rfl
  have k3' := tkE (enc := GEntry.enc) (l := es') rfl
  unfold psV resPS at *
  generalize rws GHead.enc hs = R1 at *
  generalize rws GLast.enc ls = R2 at *
  generalize rws GEntry.enc es = R3 at *
  generalize rws GChunk.enc cs = R4 at *
  generalize rws GHead.enc hs' = S1 at *
  generalize rws GLast.enc ls' = S2 at *
  generalize rws GEntry.enc es' = S3 at *
  generalize rws GChunk.enc cs' = S4 at *
  simp [F29, rcall72, c1, c2, storeM, l4, k4, l1', l2', l3', k1', k2', k3']
  trace_state
end Go.Ae.GA
namespace Go.Ae.GA
set_option linter.unusedSimpArgs false
set_option linter.unusedVariables false
set_option maxRecDepth 100000 in
set_option maxHeartbeats 64000000 in
theorem takeLogI (k : Nat) (p0 p1 se st te ts : Int) (hs : List GHead) (ls : List GLast) (es : List GEntry) (fe fs : Int) (cs : List GChunk) (q0 q1 ue ut we ws : Int) (hs' : List GHead) (ls' : List GLast) (es' : List GEntry) (ge gs : Int) (cs' : List GChunk)
    (b1 : hs.length ≤ 1048576) (b2 : ls.length ≤ 1048576) (b3 : es.length ≤ 1048576) (b4 : cs.length ≤ 1048576) (d1 : hs'.length ≤ 1048576) (d2 : ls'.length ≤ 1048576) (d3 : es'.length ≤ 1048576) (d4 : cs'.length ≤ 1048576) (g1 g2 : Bool)
    (o1 : ∀ k, call code (k + 7) 28 [psV p0 p1 se st te ts hs ls es fe fs cs] [] = some ⟨.bool g1, [], []⟩) (o2 : ∀ k, call code (k + 7) 28 [psV q0 q1 ue ut we ws hs' ls' es' ge gs cs'] [] = some ⟨.bool g2, [], []⟩) :
    call code (k + 8) 8 [psV p0 p1 se st te ts hs ls es fe fs cs, psV q0 q1 ue ut we ws hs' ls' es' ge gs cs'] [] = some (if g1 && g2 then resPS p0 p1 se st we ws hs' ls' es' ge gs cs else resPS 0 0 0 0 0 0 [] [] [] 0 0 []) := by
  refine call_run rfl fn8 rfl ?_
  have t := fun k => taking k p0 p1 se st te ts hs ls es fe fs cs q0 q1 ue ut we ws hs' ls' es' ge gs cs' b1 b2 b3 b4 d1 d2 d3 d4
  have l4 := rws_len (enc := GChunk.enc) cs
  have k4 := tkE (enc := GChunk.enc) (l := cs) rfl
  have l1' := rws_len (enc := GHead.enc) hs'
  have l2' := rws_len (enc := GLast.enc) ls'
  have l3' := rws_len (enc := GEntry.enc) es'
  have k1' := tkE (enc := GHead.enc) (l := hs') rfl
  have k2' := tkE (enc := GLast.enc) (l := ls') rfl
  have k3' := tkE (enc := GEntry.enc) (l := es') rfl
  have n1 : rws GHead.enc [] = [] := rfl
  have n2 : rws GLast.enc [] = [] := rfl
  have n3 : rws GEntry.enc [] = [] := rfl
  have n4 : rws GChunk.enc [] = [] := rfl
  unfold psV resPS at *
  rw [n1, n2, n3, n4]
  generalize rws GHead.enc hs = R1 at *
  generalize rws GLast.enc ls = R2 at *
  generalize rws GEntry.enc es = R3 at *
  generalize rws GChunk.enc cs = R4 at *
  generalize rws GHead.enc hs' = S1 at *
  generalize rws GLast.enc ls' = S2 at *
  generalize rws GEntry.enc es' = S3 at *
  generalize rws GChunk.enc cs' = S4 at *
  cases g1
  · simp [F8, rcall28, o1, storeM]
  cases g2
  · simp [F8, rcall28, o1, o2, storeM]
  · simp [F8, rcall28, o1, o2, rcall29, t, storeM, l4, k4, l1', l2', l3', k1', k2', k3']
set_option maxRecDepth 100000 in
set_option maxHeartbeats 64000000 in
theorem takeLogS (k : Nat) (p0 p1 se st te ts : Int) (hs : List GHead) (ls : List GLast) (es : List GEntry) (fe fs : Int) (cs : List GChunk) (q0 q1 ue ut we ws : Int) (hs' : List GHead) (ls' : List GLast) (es' : List GEntry) (ge gs : Int) (cs' : List GChunk)
    (b1 : hs.length ≤ 1048576) (b2 : ls.length ≤ 1048576) (b3 : es.length ≤ 1048576) (b4 : cs.length ≤ 1048576) (d1 : hs'.length ≤ 1048576) (d2 : ls'.length ≤ 1048576) (d3 : es'.length ≤ 1048576) (d4 : cs'.length ≤ 1048576) (g1 g2 : Bool)
    (o1 : ∀ k, call code (k + 7) 20 [psV p0 p1 se st te ts hs ls es fe fs cs] [] = some ⟨.bool g1, [], []⟩) (o2 : ∀ k, call code (k + 7) 20 [psV q0 q1 ue ut we ws hs' ls' es' ge gs cs'] [] = some ⟨.bool g2, [], []⟩) :
    call code (k + 8) 6 [psV p0 p1 se st te ts hs ls es fe fs cs, psV q0 q1 ue ut we ws hs' ls' es' ge gs cs'] [] = some (if g1 && g2 then resPS p0 p1 se st we ws hs' ls' es' ge gs cs else resPS 0 0 0 0 0 0 [] [] [] 0 0 []) := by
  refine call_run rfl fn6 rfl ?_
  have c1 := fun k => l17Copy k p0 p1 se st te ts hs ls es fe fs cs b1 b2 b3 b4
  have c2 := fun k => l17Copy k q0 q1 ue ut we ws hs' ls' es' ge gs cs' d1 d2 d3 d4
  have l4 := rws_len (enc := GChunk.enc) cs
  have k4 := tkE (enc := GChunk.enc) (l := cs) rfl
  have l1' := rws_len (enc := GHead.enc) hs'
  have l2' := rws_len (enc := GLast.enc) ls'
  have l3' := rws_len (enc := GEntry.enc) es'
  have k1' := tkE (enc := GHead.enc) (l := hs') rfl
  have k2' := tkE (enc := GLast.enc) (l := ls') rfl
  have k3' := tkE (enc := GEntry.enc) (l := es') rfl
  have n1 : rws GHead.enc [] = [] := rfl
  have n2 : rws GLast.enc [] = [] := rfl
  have n3 : rws GEntry.enc [] = [] := rfl
  have n4 : rws GChunk.enc [] = [] := rfl
  unfold psV resPS at *
  rw [n1, n2, n3, n4]
  generalize rws GHead.enc hs = R1 at *
  generalize rws GLast.enc ls = R2 at *
  generalize rws GEntry.enc es = R3 at *
  generalize rws GChunk.enc cs = R4 at *
  generalize rws GHead.enc hs' = S1 at *
  generalize rws GLast.enc ls' = S2 at *
  generalize rws GEntry.enc es' = S3 at *
  generalize rws GChunk.enc cs' = S4 at *
  cases g1
  · simp [F6, rcall20, o1, storeM]
  cases g2
  · simp [F6, rcall20, o1, o2, storeM]
  · simp [F6, rcall20, o1, o2, rcall21, c1, c2, storeM, l4, k4, l1', l2', l3', k1', k2', k3']
end Go.Ae.GA
namespace Go.Ae.GA
set_option linter.unusedSimpArgs false
set_option linter.unusedVariables false
theorem wsum_mem {α : Type} {w : α → Nat} {l : List α} {x : α} (h : x ∈ l) : w x ≤ wsum w l := by
  induction l with
  | nil => cases h
  | cons a r ih =>
    unfold wsum at *
    rw [List.map_cons, List.sum_cons]
    rcases List.mem_cons.1 h with rfl | h
    · omega
    · have := ih h; omega
theorem h_names {hs : List GHead} {n : Nat} (h : wsum GHead.wt hs ≤ n) : ∀ c ∈ hs, c.Name.size ≤ n := fun c hc => Nat.le_trans (wsum_mem (w := GHead.wt) hc) h
theorem e_names {hs : List GEntry} {n : Nat} (h : wsum GEntry.wt hs ≤ n) : ∀ c ∈ hs, c.Name.size ≤ n := fun c hc => Nat.le_trans (wsum_mem (w := GEntry.wt) hc) h
theorem c_names {hs : List GChunk} {n : Nat} (h : wsum GChunk.wt hs ≤ n) : ∀ c ∈ hs, c.Name.size ≤ n := fun c hc => by
  have h1 := wsum_mem (w := GChunk.wt) hc
  have h2 : c.Name.size ≤ GChunk.wt c := by unfold GChunk.wt; omega
  omega
/-- Lengths that the sizes allow. -/
structure Few (hs : List GHead) (ls : List GLast) (es : List GEntry) (cs : List GChunk) : Prop where
  h : hs.length ≤ 1048576
  l : ls.length ≤ 1048576
  e : es.length ≤ 1048576
  c : cs.length ≤ 1048576
  hn : ∀ c ∈ hs, c.Name.size ≤ 1048576
  en : ∀ c ∈ es, c.Name.size ≤ 1048576
  cn : ∀ c ∈ cs, c.Name.size ≤ 1048576
theorem few_of {hs : List GHead} {ls : List GLast} {es : List GEntry} {cs : List GChunk} (h : (hs.length + wsum GHead.wt hs) + ls.length + (es.length + wsum GEntry.wt es) + (cs.length + wsum GChunk.wt cs) ≤ 1048576) : Few hs ls es cs :=
  ⟨by omega, by omega, by omega, by omega, h_names (by omega), e_names (by omega), c_names (by omega)⟩
theorem few_nil : Few [] [] [] [] := ⟨by simp, by simp, by simp, by simp, by simp, by simp, by simp⟩
theorem takeLogs (p0 p1 se st te ts : Int) (hs : List GHead) (ls : List GLast) (es : List GEntry) (fe fs : Int) (cs : List GChunk) (q0 q1 ue ut we ws : Int) (hs' : List GHead) (ls' : List GLast) (es' : List GEntry) (ge gs : Int) (cs' : List GChunk) (b : Few hs ls es cs) (d : Few hs' ls' es' cs') :
    ∃ r0 r1 r2 r3 r4 r5 rh rl re r9 r10 rc, (∀ k, call code (k + 8) 8 [psV p0 p1 se st te ts hs ls es fe fs cs, psV q0 q1 ue ut we ws hs' ls' es' ge gs cs'] [] = some (resPS r0 r1 r2 r3 r4 r5 rh rl re r9 r10 rc)) ∧
      (∀ k, call code (k + 8) 6 [psV p0 p1 se st te ts hs ls es fe fs cs, psV q0 q1 ue ut we ws hs' ls' es' ge gs cs'] [] = some (resPS r0 r1 r2 r3 r4 r5 rh rl re r9 r10 rc)) ∧ Few rh rl re rc := by
  have i1 := fun k => stateOk k p0 p1 se st te ts hs ls es fe fs cs b.h b.l b.e b.c b.hn b.en b.cn
  have i2 := fun k => stateOk k q0 q1 ue ut we ws hs' ls' es' ge gs cs' d.h d.l d.e d.c d.hn d.en d.cn
  have s1 := fun k => stateOkS k p0 p1 se st te ts hs ls es fe fs cs b.h b.l b.e b.c b.hn b.en b.cn
  have s2 := fun k => stateOkS k q0 q1 ue ut we ws hs' ls' es' ge gs cs' d.h d.l d.e d.c d.hn d.en d.cn
  have I := fun k => takeLogI k p0 p1 se st te ts hs ls es fe fs cs q0 q1 ue ut we ws hs' ls' es' ge gs cs' b.h b.l b.e b.c d.h d.l d.e d.c _ _ i1 i2
  have S := fun k => takeLogS k p0 p1 se st te ts hs ls es fe fs cs q0 q1 ue ut we ws hs' ls' es' ge gs cs' b.h b.l b.e b.c d.h d.l d.e d.c _ _ s1 s2
  by_cases g : (stateB p0 p1 se st te ts hs ls es fe fs cs && stateB q0 q1 ue ut we ws hs' ls' es' ge gs cs') = true
  · simp only [if_pos g] at I S
    exact ⟨_, _, _, _, _, _, _, _, _, _, _, _, I, S, ⟨d.h, d.l, d.e, b.c, d.hn, d.en, b.cn⟩⟩
  · simp only [if_neg g] at I S
    exact ⟨_, _, _, _, _, _, _, _, _, _, _, _, I, S, few_nil⟩
end Go.Ae.GA
namespace Go.Ae.GA
set_option linter.unusedSimpArgs false
set_option linter.unusedVariables false
set_option maxRecDepth 100000 in
set_option maxHeartbeats 200000000 in
theorem law3 (n : Nat) (a0 a1 a2 a3 a4 a5 : Int) (ah : List GHead) (al : List GLast) (ae : List GEntry) (a9 a10 : Int) (ac : List GChunk) (b0 b1 b2 b3 b4 b5 : Int) (bh : List GHead) (bl : List GLast) (be : List GEntry) (b9 b10 : Int) (bc : List GChunk) (x1 : ah.length ≤ 140737488351232) (x2 : ∀ x ∈ ah, x.ok) (x3 : al.length ≤ 140737488351232) (x5 : ae.length ≤ 140737488351232) (x6 : ∀ x ∈ ae, x.ok) (x7 : ac.length ≤ 140737488351232) (x8 : ∀ x ∈ ac, x.ok) (y1 : bh.length ≤ 140737488351232) (y2 : ∀ x ∈ bh, x.ok) (y3 : bl.length ≤ 140737488351232) (y5 : be.length ≤ 140737488351232) (y6 : ∀ x ∈ be, x.ok) (y7 : bc.length ≤ 140737488351232) (y8 : ∀ x ∈ bc, x.ok) :
    call code (n + 12) 3 [psV a0 a1 a2 a3 a4 a5 ah al ae a9 a10 ac, psV b0 b1 b2 b3 b4 b5 bh bl be b9 b10 bc] [] = some ⟨.bool true, [], []⟩ := by
  refine call_run rfl fn3 rfl ?_
  have z1 := fun k => szPgState k 1048576 a0 a1 a2 a3 a4 a5 ah al ae a9 a10 ac (by omega) x1 x2 x3 x5 x6 x7 x8
  cases g1 : decide (szV 1048576 ((ah.length + wsum GHead.wt ah) + al.length + (ae.length + wsum GEntry.wt ae) + (ac.length + wsum GChunk.wt ac)) < 0)
  rotate_left
  · obtain ⟨_, e1⟩ := szV_neg g1 (by omega)
    rw [e1] at z1
    unfold psV
    simp [F3, rcall5, z1]
  obtain ⟨a1', e1⟩ := szV_pos g1 (by omega)
  rw [e1] at z1 g1
  have z2 := fun k => szPgState k (1048576 - ((((ah.length + wsum GHead.wt ah) + al.length + (ae.length + wsum GEntry.wt ae) + (ac.length + wsum GChunk.wt ac)) : Nat) : Int)) b0 b1 b2 b3 b4 b5 bh bl be b9 b10 bc (by omega) y1 y2 y3 y5 y6 y7 y8
  have fa : Few ah al ae ac := few_of (by omega)
  generalize ((ah.length + wsum GHead.wt ah) + al.length + (ae.length + wsum GEntry.wt ae) + (ac.length + wsum GChunk.wt ac)) = wa at *
  cases g2 : decide (szV (1048576 - (wa : Int)) ((bh.length + wsum GHead.wt bh) + bl.length + (be.length + wsum GEntry.wt be) + (bc.length + wsum GChunk.wt bc)) < 0)
  rotate_left
  · obtain ⟨_, e2⟩ := szV_neg g2 (by omega)
    rw [e2] at z2
    unfold psV
    simp [F3, rcall5, z1, g1, z2]
  obtain ⟨a2', e2⟩ := szV_pos g2 (by omega)
  rw [e2] at z2 g2
  have fb : Few bh bl be bc := few_of (by omega)
  generalize ((bh.length + wsum GHead.wt bh) + bl.length + (be.length + wsum GEntry.wt be) + (bc.length + wsum GChunk.wt bc)) = wb at *
  obtain ⟨r0, r1, r2, r3, r4, r5, rh, rl, re, r9, r10, rc, hi, hs, fr⟩ := takeLogs a0 a1 a2 a3 a4 a5 ah al ae a9 a10 ac b0 b1 b2 b3 b4 b5 bh bl be b9 b10 bc fa fb
  have bA1 := fa.h
  have bA2 := fa.l
  have bA3 := fa.e
  have bA4 := fa.c
  have tA := fun k => toPgState k a0 a1 a2 a3 a4 a5 ah al ae a9 a10 ac (by omega) (by omega) (by omega) (by omega)
  have eA := fun k => eqPgState k a0 a1 a2 a3 a4 a5 ah al ae a9 a10 ac (by omega) (by omega) (by omega) (by omega)
  have mA := fun k lv E S1 S2 S3 S4 hlv ga gb gc gd n1 n2 n3 n4 n5 n6 => markPgState k lv E a0 a1 a2 a3 a4 a5 ah al ae a9 a10 ac S1 S2 S3 S4 1 (by omega) hlv (by omega) (by omega) (by omega) (by omega) ga gb gc gd n1 n2 n3 n4 n5 n6
  have kAh := tkE (enc := GHead.enc) (l := ah) rfl
  have lAh := rws_len (enc := GHead.enc) ah
  have pAh := fun (c : Int) (l : Heap) (S : Nat) (hh : l.set S (some ⟨0, 5, false, true, rws GHead.enc ah⟩) = l) => hpm_all (enc := GHead.enc) (sz := 5) (mk := GHead.mkAt) (l := l) (S := S) (c := c) (ws := ah) hh
  have kAl := tkE (enc := GLast.enc) (l := al) rfl
  have lAl := rws_len (enc := GLast.enc) al
  have pAl := fun (c : Int) (l : Heap) (S : Nat) (hh : l.set S (some ⟨0, 4, false, true, rws GLast.enc al⟩) = l) => hpm_all (enc := GLast.enc) (sz := 4) (mk := GLast.mkAt) (l := l) (S := S) (c := c) (ws := al) hh
  have kAe := tkE (enc := GEntry.enc) (l := ae) rfl
  have lAe := rws_len (enc := GEntry.enc) ae
  have pAe := fun (c : Int) (l : Heap) (S : Nat) (hh : l.set S (some ⟨0, 10, false, true, rws GEntry.enc ae⟩) = l) => hpm_all (enc := GEntry.enc) (sz := 10) (mk := GEntry.mkAt) (l := l) (S := S) (c := c) (ws := ae) hh
  have kAc := tkE (enc := GChunk.enc) (l := ac) rfl
  have lAc := rws_len (enc := GChunk.enc) ac
  have pAc := fun (c : Int) (l : Heap) (S : Nat) (hh : l.set S (some ⟨0, 6, false, true, rws GChunk.enc ac⟩) = l) => hpm_all (enc := GChunk.enc) (sz := 6) (mk := GChunk.mkAt) (l := l) (S := S) (c := c) (ws := ac) hh
  have bB1 := fb.h
  have bB2 := fb.l
  have bB3 := fb.e
  have bB4 := fb.c
  have tB := fun k => toPgState k b0 b1 b2 b3 b4 b5 bh bl be b9 b10 bc (by omega) (by omega) (by omega) (by omega)
  have eB := fun k => eqPgState k b0 b1 b2 b3 b4 b5 bh bl be b9 b10 bc (by omega) (by omega) (by omega) (by omega)
  have mB := fun k lv E S1 S2 S3 S4 hlv ga gb gc gd n1 n2 n3 n4 n5 n6 => markPgState k lv E b0 b1 b2 b3 b4 b5 bh bl be b9 b10 bc S1 S2 S3 S4 (1 + 5 * (ah.length : Int) + 4 * al.length + 10 * ae.length + 6 * ac.length) (by omega) hlv (by omega) (by omega) (by omega) (by omega) ga gb gc gd n1 n2 n3 n4 n5 n6
  have kBh := tkE (enc := GHead.enc) (l := bh) rfl
  have lBh := rws_len (enc := GHead.enc) bh
  have pBh := fun (c : Int) (l : Heap) (S : Nat) (hh : l.set S (some ⟨0, 5, false, true, rws GHead.enc bh⟩) = l) => hpm_all (enc := GHead.enc) (sz := 5) (mk := GHead.mkAt) (l := l) (S := S) (c := c) (ws := bh) hh
  have kBl := tkE (enc := GLast.enc) (l := bl) rfl
  have lBl := rws_len (enc := GLast.enc) bl
  have pBl := fun (c : Int) (l : Heap) (S : Nat) (hh : l.set S (some ⟨0, 4, false, true, rws GLast.enc bl⟩) = l) => hpm_all (enc := GLast.enc) (sz := 4) (mk := GLast.mkAt) (l := l) (S := S) (c := c) (ws := bl) hh
  have kBe := tkE (enc := GEntry.enc) (l := be) rfl
  have lBe := rws_len (enc := GEntry.enc) be
  have pBe := fun (c : Int) (l : Heap) (S : Nat) (hh : l.set S (some ⟨0, 10, false, true, rws GEntry.enc be⟩) = l) => hpm_all (enc := GEntry.enc) (sz := 10) (mk := GEntry.mkAt) (l := l) (S := S) (c := c) (ws := be) hh
  have kBc := tkE (enc := GChunk.enc) (l := bc) rfl
  have lBc := rws_len (enc := GChunk.enc) bc
  have pBc := fun (c : Int) (l : Heap) (S : Nat) (hh : l.set S (some ⟨0, 6, false, true, rws GChunk.enc bc⟩) = l) => hpm_all (enc := GChunk.enc) (sz := 6) (mk := GChunk.mkAt) (l := l) (S := S) (c := c) (ws := bc) hh
  have bR1 := fr.h
  have bR2 := fr.l
  have bR3 := fr.e
  have bR4 := fr.c
  have eR := fun k => eqPgState k r0 r1 r2 r3 r4 r5 rh rl re r9 r10 rc (by omega) (by omega) (by omega) (by omega)
  have mR := fun k lv E S1 S2 S3 S4 hlv ga gb gc gd n1 n2 n3 n4 n5 n6 => markPgState k lv E r0 r1 r2 r3 r4 r5 rh rl re r9 r10 rc S1 S2 S3 S4 1 (by omega) hlv (by omega) (by omega) (by omega) (by omega) ga gb gc gd n1 n2 n3 n4 n5 n6
  have kRh := tkE (enc := GHead.enc) (l := rh) rfl
  have lRh := rws_len (enc := GHead.enc) rh
  have pRh := fun (c : Int) (l : Heap) (S : Nat) (hh : l.set S (some ⟨0, 5, false, true, rws GHead.enc rh⟩) = l) => hpm_all (enc := GHead.enc) (sz := 5) (mk := GHead.mkAt) (l := l) (S := S) (c := c) (ws := rh) hh
  have kRl := tkE (enc := GLast.enc) (l := rl) rfl
  have lRl := rws_len (enc := GLast.enc) rl
  have pRl := fun (c : Int) (l : Heap) (S : Nat) (hh : l.set S (some ⟨0, 4, false, true, rws GLast.enc rl⟩) = l) => hpm_all (enc := GLast.enc) (sz := 4) (mk := GLast.mkAt) (l := l) (S := S) (c := c) (ws := rl) hh
  have kRe := tkE (enc := GEntry.enc) (l := re) rfl
  have lRe := rws_len (enc := GEntry.enc) re
  have pRe := fun (c : Int) (l : Heap) (S : Nat) (hh : l.set S (some ⟨0, 10, false, true, rws GEntry.enc re⟩) = l) => hpm_all (enc := GEntry.enc) (sz := 10) (mk := GEntry.mkAt) (l := l) (S := S) (c := c) (ws := re) hh
  have kRc := tkE (enc := GChunk.enc) (l := rc) rfl
  have lRc := rws_len (enc := GChunk.enc) rc
  have pRc := fun (c : Int) (l : Heap) (S : Nat) (hh : l.set S (some ⟨0, 6, false, true, rws GChunk.enc rc⟩) = l) => hpm_all (enc := GChunk.enc) (sz := 6) (mk := GChunk.mkAt) (l := l) (S := S) (c := c) (ws := rc) hh
  have hh := fun k => heldPgState k r0 r1 r2 r3 r4 r5 rh.length rl.length re.length r9 r10 rc.length 1 (by omega) (by omega) (by omega) (by omega) (by omega)
  have qh := fun c n => tkE (enc := GHead.enc) (marks_len GHead.mkAt c n)
  have ql := fun c n => tkE (enc := GLast.enc) (marks_len GLast.mkAt c n)
  have qe := fun c n => tkE (enc := GEntry.enc) (marks_len GEntry.mkAt c n)
  have qc := fun c n => tkE (enc := GChunk.enc) (marks_len GChunk.mkAt c n)
  have d1 : decide (1 + 5 * (ah.length : Int) + 4 * al.length + 10 * ae.length + 6 * ac.length < 0) = false := by simp <;> omega
  have d2 : decide (1 + 5 * (ah.length : Int) + 4 * al.length + 10 * ae.length + 6 * ac.length + 5 * bh.length + 4 * bl.length + 10 * be.length + 6 * bc.length < 0) = false := by simp <;> omega
  have d3 : decide (1 + 5 * (rh.length : Int) + 4 * rl.length + 10 * re.length + 6 * rc.length < 0) = false := by simp <;> omega
  unfold resPS psV at *
  simp (maxSteps := 40000000) [F3, rcall5, z1, g1, z2, g2, rcall7, rcall6, hs, rcall8, hi, rcall9, rcall10, rcall11, hh, storeM, d1, d2, d3, tA, eA, mA, kAh, lAh, pAh, kAl, lAl, pAl, kAe, lAe, pAe, kAc, lAc, pAc, tB, eB, mB, kBh, lBh, pBh, kBl, lBl, pBl, kBe, lBe, pBe, kBc, lBc, pBc, eR, mR, kRh, lRh, pRh, kRl, lRl, pRl, kRe, lRe, pRe, kRc, lRc, pRc, qh, ql, qe, qc]
end Go.Ae.GA
namespace Go.Ae.GA
set_option linter.unusedSimpArgs false
set_option linter.unusedVariables false
theorem ps_inv {cs : List AV} (f0 : FitsAll [.int .i64, .int .i64, .int .i64, .int .i64, .int .i64, .int .i64, .sl 48 [.str, .int .i64, .int .i64, .int .i64, .int .i64], .sl 32 [.int .i64, .int .i64, .int .i64, .int .i64], .sl 88 [.int .i64, .int .i64, .int .i64, .int .i64, .str, .bool, .int .i64, .int .i64, .int .i64, .int .i64], .int .i64, .int .i64, .sl 64 [.str, .int .i64, .int .i64, .int .i64, .int .i64, .str]] cs) : ∃ (p0 p1 se st te ts : Int) (hs : List GHead) (ls : List GLast) (es : List GEntry) (fe fs : Int) (ks : List GChunk), .agg cs = psV p0 p1 se st te ts hs ls es fe fs ks ∧
    hs.length ≤ 140737488351232 ∧ (∀ x ∈ hs, x.ok) ∧ ls.length ≤ 140737488351232 ∧ es.length ≤ 140737488351232 ∧ (∀ x ∈ es, x.ok) ∧ ks.length ≤ 140737488351232 ∧ (∀ x ∈ ks, x.ok) := by
  obtain ⟨_, _, rfl, c0, f0⟩ := f0.cons_inv
  obtain ⟨_, _, rfl, c1, f0⟩ := f0.cons_inv
  obtain ⟨_, _, rfl, c2, f0⟩ := f0.cons_inv
  obtain ⟨_, _, rfl, c3, f0⟩ := f0.cons_inv
  obtain ⟨_, _, rfl, c4, f0⟩ := f0.cons_inv
  obtain ⟨_, _, rfl, c5, f0⟩ := f0.cons_inv
  obtain ⟨_, _, rfl, c6, f0⟩ := f0.cons_inv
  obtain ⟨_, _, rfl, c7, f0⟩ := f0.cons_inv
  obtain ⟨_, _, rfl, c8, f0⟩ := f0.cons_inv
  obtain ⟨_, _, rfl, c9, f0⟩ := f0.cons_inv
  obtain ⟨_, _, rfl, c10, f0⟩ := f0.cons_inv
  obtain ⟨_, _, rfl, c11, f0⟩ := f0.cons_inv
  obtain rfl := f0.nil_inv
  obtain ⟨v0, rfl, _⟩ := c0.i64_inv
  obtain ⟨v1, rfl, _⟩ := c1.i64_inv
  obtain ⟨v2, rfl, _⟩ := c2.i64_inv
  obtain ⟨v3, rfl, _⟩ := c3.i64_inv
  obtain ⟨v4, rfl, _⟩ := c4.i64_inv
  obtain ⟨v5, rfl, _⟩ := c5.i64_inv
  obtain ⟨v9, rfl, _⟩ := c9.i64_inv
  obtain ⟨v10, rfl, _⟩ := c10.i64_inv
  obtain ⟨xs6, rfl, l6, r6⟩ := c6.sl_inv
  obtain ⟨hs, rfl, o6⟩ := fitHeadS r6
  rw [rws_len] at l6
  obtain ⟨xs7, rfl, l7, r7⟩ := c7.sl_inv
  obtain ⟨ls, rfl, o7⟩ := fitLastS r7
  rw [rws_len] at l7
  obtain ⟨xs8, rfl, l8, r8⟩ := c8.sl_inv
  obtain ⟨es, rfl, o8⟩ := fitEntryS r8
  rw [rws_len] at l8
  obtain ⟨xs11, rfl, l11, r11⟩ := c11.sl_inv
  obtain ⟨ks, rfl, o11⟩ := fitChunkS r11
  rw [rws_len] at l11
  exact ⟨v0, v1, v2, v3, v4, v5, hs, ls, es, v9, v10, ks, rfl, by omega, o6, by omega, by omega, o8, by omega, o11⟩
theorem lawTakeLog (avs : List AV) (h : PFitsAll [(true, [.int .i64, .int .i64, .int .i64, .int .i64, .int .i64, .int .i64, .sl 48 [.str, .int .i64, .int .i64, .int .i64, .int .i64], .sl 32 [.int .i64, .int .i64, .int .i64, .int .i64], .sl 88 [.int .i64, .int .i64, .int .i64, .int .i64, .str, .bool, .int .i64, .int .i64, .int .i64, .int .i64], .int .i64, .int .i64, .sl 64 [.str, .int .i64, .int .i64, .int .i64, .int .i64, .str]]), (true, [.int .i64, .int .i64, .int .i64, .int .i64, .int .i64, .int .i64, .sl 48 [.str, .int .i64, .int .i64, .int .i64, .int .i64], .sl 32 [.int .i64, .int .i64, .int .i64, .int .i64], .sl 88 [.int .i64, .int .i64, .int .i64, .int .i64, .str, .bool, .int .i64, .int .i64, .int .i64, .int .i64], .int .i64, .int .i64, .sl 64 [.str, .int .i64, .int .i64, .int .i64, .int .i64, .str]])] avs) : ∃ n bs e, call code n 3 avs [] = some ⟨.bool true, bs, e⟩ := by
  obtain ⟨v0, r, rfl, h0, h⟩ := h.cons_inv
  obtain ⟨v1, r, rfl, h1, h⟩ := h.cons_inv
  obtain rfl := h.nil_inv
  obtain ⟨cs, rfl, f0⟩ := h0.agg_inv
  obtain ⟨ds, rfl, f1⟩ := h1.agg_inv
  obtain ⟨p0, p1, se, st, te, ts, hs, ls, es, fe, fs, ks, e1, x1, x2, x3, x5, x6, x7, x8⟩ := ps_inv f0
  obtain ⟨q0, q1, ue, ut, we, ws, hs', ls', es', ge, gs, ks', e2, y1, y2, y3, y5, y6, y7, y8⟩ := ps_inv f1
  rw [e1, e2]
  exact ⟨_, _, _, law3 0 p0 p1 se st te ts hs ls es fe fs ks q0 q1 ue ut we ws hs' ls' es' ge gs ks' x1 x2 x3 x5 x6 x7 x8 y1 y2 y3 y5 y6 y7 y8⟩
end Go.Ae.GA
