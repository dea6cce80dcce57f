/- A byte turned; pieces and places asked for; which shards are odd. -/
import Derived.Test.YtnfghcflpnlbiaaC3MF
namespace Go.Ae.C3
set_option linter.unusedSimpArgs false
set_option linter.unusedVariables false
theorem pieceSizeI (k : Nat) (a b n : Nat) (q1 : 1 ≤ a ∧ a ≤ 4) (q3 : b ≤ 3) (hn : n ≤ 64) : call code (k + 5) 37 [.agg [.int .i64 a, .int .i64 b], .int .i64 n] [] = some ⟨.tup [.int .i64 (psz a n : Nat), .int .i64 0], [], []⟩ := by
  refine call_run rfl fn37 rfl ?_
  have i1 := fun k => codeOk k a b
  have c1 : codeB a b = true := by simp [codeB, inB]; omega
  have h2 := fun k => between k n 0 64
  have c2 : inB (n : Int) 0 64 = true := by simp [inB]; omega
  rw [c2] at h2
  have h3 := fun k => piece k a n b ⟨q1.1, by omega⟩ (by omega)
  simp [F37, rcall84, i1, c1, rcall86, h2, rcall87, h3]
theorem shardAtI (k : Nat) (a b : Nat) (l : List UInt8) (p : Nat) (q1 : 1 ≤ a ∧ a ≤ 4) (q3 : b ≤ 3) (hl : l.length ≤ 64) (hp : p < a + b) : call code (k + 9) 38 [.agg [.int .i64 a, .int .i64 b], .str (B l), .int .i64 p] [] = some ⟨.tup [.str (B ((shs a b l).getD p [])), .int .i64 0], [], []⟩ := by
  refine call_run rfl fn38 rfl ?_
  have i1 := fun k => codeOk k a b
  have c1 : codeB a b = true := by simp [codeB, inB]; omega
  have d2 : decide ((64 : Int) < (l.length : Int)) = false := by simp; omega
  have i2 := fun k => isPos k a b p (by omega)
  have c3 : inB (p : Int) 0 (((a + b : Nat) : Int) - 1) = true := by simp [inB]; omega
  rw [c3] at i2
  have ish := fun k => shards k a b l q1.1 (by omega) (by omega)
  have hsl := shs_len a b l
  have hg : ∀ h, (rowsS (shs a b l))[p]'h = [.str (B ((shs a b l).getD p []))] := fun h => rowsS_at (by omega) h
  clear c3
  generalize a + b = ab at *
  simp [F38, rcall84, i1, c1, d2, rcall79, i2, rcall85, ish, hp, hg, hsl]
theorem a8Turn (l x : List UInt8) (h0 : 1 ≤ l.length) (hl : l.length ≤ 1000) (hx : x.length ≤ 1048576) : ∃ t : List UInt8, t.length = l.length ∧ t ≠ l ∧ ∀ k, call code (k + 2) 39 [.str (B l), .rd true (rws encU x)] [] = some ⟨.str (B t), [], []⟩ := by
  have a1 := fun k => a8At k x 3 l.length hx (by omega) hl
  have q1 := aAt_lt x 3 l.length h0
  have a2 : ∀ k, call code (k + 1) 33 [.rd true (rws encU x), .int .i64 5, .int .i64 255] [] = some ⟨.int .i64 (aAt x 5 255 : Nat), [], []⟩ := fun k => a8At k x 5 255 hx (by omega) (by omega)
  have q2 := aAt_lt x 5 255 (by omega)
  have c3 : ((3 : Nat) : Int) = 3 := rfl
  rw [c3] at a1
  generalize aAt x 3 l.length = i at *
  generalize aAt x 5 255 = c at *
  have e1 : IntKind.wrap .i64 (1 + (c : Int)) = ((1 + c : Nat) : Int) := by rw [wrap64 ⟨by omega, by omega⟩]; omega
  have e2 := wrap8 (n := 1 + c) (by omega)
  have e4 : IntKind.wrap .i64 ((i : Int) + 1) = ((i + 1 : Nat) : Int) := by rw [wrap64 ⟨by omega, by omega⟩]; omega
  have hne : UInt8.ofNat (1 + c) ≠ 0 := fun h => by
    have := congrArg UInt8.toNat h
    simp at this
    omega
  generalize UInt8.ofNat (1 + c) = d at *
  have e3 := gXor8 l[i] d
  refine ⟨l.take i ++ [l[i] ^^^ d] ++ l.drop (i + 1), by simp; omega, fun h => ?_, fun k => ?_⟩
  · have h1 := congrArg (fun m : List UInt8 => m[i]?) h
    have hti : (l.take i).length = i := by simp; omega
    simp only [List.append_assoc] at h1
    rw [List.getElem?_append_right (by omega), hti, Nat.sub_self] at h1
    simp [List.getElem?_eq_getElem q1] at h1
    have h2 : (l[i] ^^^ d) ^^^ l[i] = l[i] ^^^ l[i] := by rw [h1]
    rw [UInt8.xor_comm, ← UInt8.xor_assoc, UInt8.xor_self, UInt8.zero_xor] at h2
    exact hne h2
  · refine call_run rfl fn39 rfl ?_
    have b1 := B_cut l 0 i
    have b2 := B_cut l (i + 1) l.length
    rw [List.drop_zero, Nat.sub_zero] at b1
    rw [List.take_of_length_le (by simp)] at b2
    have hb := bytesOf_rws [l[i] ^^^ d]
    have hrw : rws encB [l[i] ^^^ d] = [[.int .u8 ((l[i] ^^^ d).toNat : Nat)]] := rfl
    rw [hrw] at hb
    have hget : (B l)[i]? = some l[i] := by rw [B_get, List.getElem?_eq_getElem q1]
    have g1 := B_app (l.take i) [l[i] ^^^ d]
    have g2 := B_app (l.take i ++ [l[i] ^^^ d]) (l.drop (i + 1))
    generalize hX : l[i] ^^^ d = X at *
    have hmk : (⟨[X].toArray⟩ : ByteArray) = B [X] := rfl
    have hmk' : (⟨#[X]⟩ : ByteArray) = B [X] := rfl
    have hmx : IntKind.max .i64 = 9223372036854775807 := rfl
    have q1' : i ≤ l.length := by omega
    have q1s : i + 1 ≤ l.length := by omega
    have z1 : (0 : Int) ≤ (i : Int) + 1 := by omega
    have z2 : (i : Int) + 1 ≤ (l.length : Int) := by omega
    have z3 : (i : Int) + 1 ≤ 9223372036854775807 := by omega
    generalize 1 + c = c1 at *
    simp [F39, rcall33, a1, a2, e1, e2, e3, e4, q1, q1', q1s, z1, z2, z3, g1, g2, hget, b1, b2, hb, hmk, hmk', hmx]
    omega
theorem a8Same1 (n : Nat) (z : Int) (E : List Heap) : call code (n + 1) 40 [.rd true (rws encI [z]), .rd true (rws encI [z])] [] = some ⟨.bool true, [], []⟩ := by
  refine call_run rfl fn40 rfl ?_
  have h1 : (rws encI [z]).length = 1 := rfl
  have h2 : ∀ h, (rws encI [z])[0]'h = [.int .i64 z] := fun h => rfl
  simp [F40]
  refine RunC_loop (fun i : Nat => ⟨tm 26 [(0, .rd true (rws encI [z])), (1, .rd true (rws encI [z])), (5, .int .i64 i)], [], []⟩)
    (fun i => i ≤ 1) (fun i => 1 - i) 0 (Nat.zero_le _) (by simp) (by simp [tm]) fun i hi _ => ?_
  by_cases hlt : i < 1
  · have : i = 0 := by omega
    subst this
    simp [tm, h1, h2]
    exact ⟨1, by omega, by omega, by simp; rfl⟩
  · have : i = 1 := by omega
    subst this
    simp [tm, h1]
theorem filter_set_one {α : Type} (p : α → Bool) : ∀ (l : List α) (k : Nat) (x : α), k < l.length → (∀ y ∈ l, p y = false) → p x = true → (l.set k x).filter p = [x]
  | [], k, x, h, _, _ => by simp at h
  | y :: l, 0, x, _, hf, hx => by
    have : l.filter p = [] := List.filter_eq_nil_iff.2 fun z hz => by simp [hf z (List.mem_cons_of_mem _ hz)]
    simp [List.set, List.filter, hx, this]
  | y :: l, k + 1, x, h, hf, hx => by
    have ih := filter_set_one p l k x (by simp at h; omega) (fun z hz => hf z (List.mem_cons_of_mem _ hz)) hx
    simp [List.set, List.filter, hf y (List.mem_cons_self), ih]
theorem odd_own {a b q : Nat} {ws : List GShard} {A : List (List UInt8)} (hA : anewD a b q ws = A) {s : GShard} (h : s.Bytes = B (A.getD s.Pos.toNat [])) : oddB a b q ws s = false := by
  unfold oddB; rw [hA, h]; simp
theorem oddL_nil {a b q : Nat} {ws : List GShard} {A : List (List UInt8)} (hA : anewD a b q ws = A) (h : ∀ s ∈ ws, s.Bytes = B (A.getD s.Pos.toNat [])) (i : Nat) : oddL a b q ws i = [] := by
  unfold oddL
  rw [List.filter_eq_nil_iff.2 fun s hs => by rw [odd_own hA (h s (List.mem_of_mem_take hs))]; simp]
  rfl
theorem recD_take {a b q : Nat} {ws vs : List GShard} (h : ws.take a = vs.take a) : recD a b q ws = recD a b q vs := by
  unfold recD invH pL bL
  rw [h]
theorem B_inj {l r : List UInt8} (h : (B l).toList = (B r).toList) : l = r := by
  rw [ByteArray.toList_eq, ByteArray.toList_eq, B_list, B_list] at h
  exact h
theorem oddL_one {a b q : Nat} {ws : List GShard} {A : List (List UInt8)} (hA : anewD a b q ws = A) (h : ∀ s ∈ ws, s.Bytes = B (A.getD s.Pos.toNat [])) {k : Nat} (hk : a ≤ k) (hk2 : k < ws.length) {t : List UInt8} (ht : t ≠ A.getD k []) :
    oddL a b q (ws.set k ⟨(k : Int), B t⟩) (ws.set k ⟨(k : Int), B t⟩).length = [(k : Int)] := by
  have hA' : anewD a b q (ws.set k ⟨(k : Int), B t⟩) = A := by
    unfold anewD at hA ⊢
    rw [recD_take (vs := ws) (by rw [List.take_set]; exact List.set_eq_of_length_le (by simp; omega)), hA]
  unfold oddL
  rw [List.take_length, filter_set_one _ ws k _ hk2 (fun y hy => odd_own hA' (h y hy)) ?_]
  · rfl
  · unfold oddB
    rw [hA']
    simp only [Int.toNat_natCast, Bool.not_eq_true', beq_eq_false_iff_ne, ne_eq]
    exact fun e => ht (B_inj e).symm
end Go.Ae.C3
