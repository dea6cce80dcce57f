/- Striped objects that are whole: the tests of the program and of the reference. -/
import Derived.Test.YtnfghcflpnlbiaaC3M4
import Derived.Test.YtnfghcflpnlbiaaAeL6
namespace Go.Ae.C3
set_option linter.unusedSimpArgs false
set_option linter.unusedVariables false
def dT (t : Nat) (s : ByteArray) : Bool := (s.size : Int) != (t : Int)
def wideB (K M U S : Int) (ws : List ByteArray) : Bool := codeB K M && (inB U 1 8 && (inB S 0 256 && (!((ws.length : Int) != ((K.toNat + M.toNat : Nat) : Int)) && !ws.any (dT (tallN K.toNat U.toNat S.toNat)))))
theorem diffTall (k : Nat) (a b u n : Nat) (ha : 1 ≤ a ∧ a ≤ 4) (hu : 1 ≤ u ∧ u ≤ 8) (hn : n ≤ 256) (R : List (List AV)) (s : ByteArray) : call code (k + 3) 98 [.str s, .rptr [.int .i64 a, .int .i64 b, .int .i64 u, .int .i64 n, .rd true R]] [] = some ⟨.bool (dT (tallN a u n) s), [], []⟩ := by
  refine call_run rfl fn98 rfl ?_
  have h1 := fun k => length k a b u n R ha hu hn
  unfold dT
  generalize tallN a u n = t at *
  simp [F98, rcall99, h1]
theorem anyTall (k : Nat) (a b u n : Nat) (ha : 1 ≤ a ∧ a ≤ 4) (hu : 1 ≤ u ∧ u ≤ 8) (hn : n ≤ 256) (ws : List ByteArray) (hl : ws.length ≤ 1000000000) :
    call code (k + 5) 97 [.rd true (rws encT ws), .fn 98 [.rptr [.int .i64 a, .int .i64 b, .int .i64 u, .int .i64 n, .rd true (rws encT ws)]]] [] = some ⟨.bool (ws.any (dT (tallN a u n))), [], []⟩ := by
  refine containsFunc_ok (c := code) (i := 138) rfl rfl rfl 4 true ws (fun st => by simp) (fun k => ?_) k
  exact indexFunc_ok (c := code) (sz := 1) (ag := false) (arg := fun s => .str s) rfl rfl 3 true ws hl rfl (fun _ => rfl) (fun _ => rfl) (fun st x => by simp) (fun h => by simp) (fun k x _ => diffTall k a b u n ha hu hn _ x) k
theorem wideOk (k : Nat) (K M U S : Int) (ws : List ByteArray) (hl : ws.length ≤ 1048576) : call code (k + 6) 49 [.agg [.int .i64 K, .int .i64 M, .int .i64 U, .int .i64 S, .rd true (rws encT ws)]] [] = some ⟨.bool (wideB K M U S ws), [], []⟩ := by
  refine call_run rfl fn49 rfl ?_
  have i1 := fun k => codeOk k K M
  have i2 := fun k => between k U 1 8
  have i3 := fun k => between k S 0 256
  unfold wideB
  cases c1 : codeB K M
  · simp [F49, rcall84, i1, c1]
  cases c2 : inB U 1 8
  · simp [F49, rcall84, i1, c1, rcall86, i2, c2]
  cases c3 : inB S 0 256
  · simp [F49, rcall84, i1, c1, rcall86, i2, c2, i3, c3]
  obtain ⟨a, b, rfl, rfl, ha1, ha2, hb⟩ := codeB_nat c1
  obtain ⟨u, rfl⟩ : ∃ u : Nat, U = u := ⟨U.toNat, by simp [inB] at c2; omega⟩
  have hu : 1 ≤ u ∧ u ≤ 8 := by simp [inB] at c2; omega
  obtain ⟨n, rfl⟩ : ∃ n : Nat, S = n := ⟨S.toNat, by simp [inB] at c3; omega⟩
  have hn : n ≤ 256 := by simp [inB] at c3; omega
  simp only [Int.toNat_natCast, Bool.true_and]
  have z := fun k => size k a b (by omega)
  have an := fun k => anyTall k a b u n ⟨ha1, ha2⟩ hu hn ws (by omega)
  have hrl := rws_len (enc := encT) ws
  generalize ws.any (dT (tallN a u n)) = g at *
  generalize ws.length = wl at *
  generalize a + b = ab at *
  cases c4 : ((wl : Int) != (ab : Int))
  · simp [F49, rcall84, i1, c1, rcall86, i2, c2, i3, c3, rcall96, z, hrl, c4, rcall97, an]
  · simp [F49, rcall84, i1, c1, rcall86, i2, c2, i3, c3, rcall96, z, hrl, c4]
end Go.Ae.C3
namespace Go.Ae.C3
set_option linter.unusedSimpArgs false
set_option linter.unusedVariables false
theorem any_false {α : Type} {p : α → Bool} {l : List α} (h : ∀ j (hj : j < l.length), p l[j] = false) : l.any p = false := by
  rw [List.any_eq_false]
  intro x hx
  obtain ⟨j, hj, rfl⟩ := List.getElem_of_mem hx
  simp [h j hj]
theorem any_true {α : Type} {p : α → Bool} {l : List α} {i : Nat} (hi : i < l.length) (h : p l[i] = true) : l.any p = true := List.any_eq_true.2 ⟨l[i], List.getElem_mem hi, h⟩
set_option maxHeartbeats 4000000 in
theorem l05OK (k : Nat) (K M U S : Int) (ws : List ByteArray) (hl : ws.length ≤ 1048576) : call code (k + 4) 103 [.agg [.int .i64 K, .int .i64 M, .int .i64 U, .int .i64 S, .rd true (rws encT ws)]] [] = some ⟨.bool (wideB K M U S ws), [], []⟩ := by
  refine call_run rfl fn103 rfl ?_
  have i1 := fun k => l04Code k K M
  have i2 := fun k => l00In k U 1 8
  have i3 := fun k => l00In k S 0 256
  unfold wideB
  cases c1 : codeB K M
  · simp [F103, rcall88, i1, c1]
  cases c2 : inB U 1 8
  · simp [F103, rcall88, i1, c1, rcall77, i2, c2]
  cases c3 : inB S 0 256
  · simp [F103, rcall88, i1, c1, rcall77, i2, c2, i3, c3]
  obtain ⟨a, b, rfl, rfl, ha1, ha2, hb⟩ := codeB_nat c1
  obtain ⟨u, rfl⟩ : ∃ u : Nat, U = u := ⟨U.toNat, by simp [inB] at c2; omega⟩
  have hu : 1 ≤ u ∧ u ≤ 8 := by simp [inB] at c2; omega
  obtain ⟨n, rfl⟩ : ∃ n : Nat, S = n := ⟨S.toNat, by simp [inB] at c3; omega⟩
  have hn : n ≤ 256 := by simp [inB] at c3; omega
  simp only [Int.toNat_natCast, Bool.true_and]
  have z := fun k => l05Tall k a b u n ⟨ha1, ha2⟩ hu hn
  have hrl := rws_len (enc := encT) ws
  have e0 : IntKind.wrap .i64 ((a : Int) + (b : Int)) = ((a + b : Nat) : Int) := by rw [wrap64 ⟨by omega, by omega⟩]; omega
  generalize tallN a u n = t at *
  generalize hab : a + b = ab at *
  cases c4 : ((ws.length : Int) != (ab : Int))
  rotate_left
  · simp [F103, rcall88, i1, c1, rcall77, i2, c2, i3, c3, e0, hrl, c4]
  simp [F103, rcall88, i1, c1, rcall77, i2, c2, i3, c3, e0, hrl, c4]
  refine RunC_loop (fun i : Nat => ⟨tm 54 [(1, .ptr 0 0 0 [] 0 0), (3, .int .i64 i)], [(0, some ⟨0, 5, true, false, [[.int .i64 a, .int .i64 b, .int .i64 u, .int .i64 n, .rd true (rws encT ws)]]⟩)], []⟩)
    (fun i => i ≤ ws.length ∧ ∀ j (hj : j < ws.length), j < i → dT t ws[j] = false) (fun i => ws.length - i) 0 ⟨Nat.zero_le _, fun j hj h => by omega⟩ (by simp; omega) (by simp [tm]) fun i hi _ => ?_
  obtain ⟨hi, hall⟩ := hi
  by_cases hlt : i < ws.length
  · have hs := idx_succ' hlt (by omega)
    have hfin : dT t ws[i] = true → ws.any (dT t) = true := any_true hlt
    cases hd : dT t ws[i]
    · have hd' := hd
      unfold dT at hd'
      have hnx : ∀ j (hj : j < ws.length), j < i + 1 → dT t ws[j] = false := fun j hj h => by
        rcases Nat.lt_succ_iff_lt_or_eq.1 h with h' | rfl
        · exact hall j hj h'
        · exact hd
      simp [tm, hlt, hs, encT, rcall136, z, hd']
      exact ⟨i + 1, ⟨by omega, hnx⟩, by omega, by simp⟩
    · have hd' := hd
      unfold dT at hd'
      rw [hfin hd]
      simp [tm, hlt, hs, encT, rcall136, z, hd']
  · have : i = ws.length := by omega
    subst this
    have : ws.any (dT t) = false := any_false fun j hj => hall j hj hj
    rw [this]
    simp [tm]
end Go.Ae.C3
namespace Go.Ae.C3
set_option linter.unusedSimpArgs false
set_option linter.unusedVariables false
/-- The byte at a place, and the bytes of a part. -/
def rdAt (a u : Nat) (ws : List ByteArray) (p : Nat) : UInt8 := (ws.getD (colN a u p) ByteArray.empty).data.toList.getD (offN a u p) 0
def rdB (a u : Nat) (ws : List ByteArray) (at_ m : Nat) : List UInt8 := (List.range m).map fun i => rdAt a u ws (at_ + i)
theorem rdB_len (a u : Nat) (ws : List ByteArray) (at_ m : Nat) : (rdB a u ws at_ m).length = m := by simp [rdB]
theorem rdB_app (a u : Nat) (ws : List ByteArray) (at_ m : Nat) : rdB a u ws at_ m ++ [rdAt a u ws (at_ + m)] = rdB a u ws at_ (m + 1) := by simp [rdB, List.range_succ]
structure Wide (a b u n : Nat) (ws : List ByteArray) : Prop where
  a1 : 1 ≤ a
  a4 : a ≤ 4
  b3 : b ≤ 3
  u1 : 1 ≤ u
  u8 : u ≤ 8
  n256 : n ≤ 256
  len : ws.length = a + b
  all : ∀ s ∈ ws, s.size = tallN a u n
theorem wideB_inv {K M U S : Int} {ws : List ByteArray} (h : wideB K M U S ws = true) : ∃ a b u n : Nat, K = a ∧ M = b ∧ U = u ∧ S = n ∧ Wide a b u n ws := by
  unfold wideB at h
  simp only [Bool.and_eq_true] at h
  obtain ⟨c1, c2, c3, c4, c5⟩ := h
  obtain ⟨a, b, rfl, rfl, ha1, ha2, hb⟩ := codeB_nat c1
  obtain ⟨u, rfl⟩ : ∃ u : Nat, U = u := ⟨U.toNat, by simp [inB] at c2; omega⟩
  have hu : 1 ≤ u ∧ u ≤ 8 := by simp [inB] at c2; omega
  obtain ⟨n, rfl⟩ : ∃ n : Nat, S = n := ⟨S.toNat, by simp [inB] at c3; omega⟩
  have hn : n ≤ 256 := by simp [inB] at c3; omega
  simp only [Int.toNat_natCast] at c4 c5
  refine ⟨a, b, u, n, rfl, rfl, rfl, rfl, ha1, ha2, hb, hu.1, hu.2, hn, by simp at c4; omega, fun s hs => ?_⟩
  rw [Bool.not_eq_true', List.any_eq_false] at c5
  have := c5 s hs
  simp [dT] at this
  omega
/-- Columns that can be read. -/
structure Cols (a u n : Nat) (ws : List ByteArray) : Prop where
  a1 : 1 ≤ a
  a4 : a ≤ 4
  u1 : 1 ≤ u
  u8 : u ≤ 8
  n256 : n ≤ 256
  len : a ≤ ws.length
  all : ∀ s ∈ ws, s.size = tallN a u n
theorem Wide.cols {a b u n : Nat} {ws : List ByteArray} (h : Wide a b u n ws) : Cols a u n ws := ⟨h.a1, h.a4, h.u1, h.u8, h.n256, by have := h.len; omega, h.all⟩
theorem Cols.col {a u n : Nat} {ws : List ByteArray} (h : Cols a u n ws) {p : Nat} (hp : p < n) : ∃ s, ws[colN a u p]? = some s ∧ ∃ hl : colN a u p < ws.length, ws[colN a u p] = s ∧ offN a u p < s.size ∧ s.data.toList[offN a u p]? = some (rdAt a u ws p) := by
  have hc := colN_lt h.a1 h.u1 p
  have hl : colN a u p < ws.length := by have := h.len; omega
  have ho := offN_lt h.a1 h.u1 hp
  have hs := h.all _ (List.getElem_mem hl)
  refine ⟨ws[colN a u p], List.getElem?_eq_getElem hl, hl, rfl, by rw [hs]; exact ho, ?_⟩
  have e : ws[colN a u p].data.toList.length = ws[colN a u p].size := Array.length_toList
  have hlt : offN a u p < ws[colN a u p].data.toList.length := by rw [e, hs]; exact ho
  unfold rdAt
  have e2 : ws.getD (colN a u p) ByteArray.empty = ws[colN a u p] := by rw [List.getD_eq_getElem?_getD, List.getElem?_eq_getElem hl]; rfl
  rw [e2, List.getD_eq_getElem?_getD, List.getElem?_eq_getElem hlt]
  rfl
theorem col0 (a u p : Nat) : C0.colN a u p = colN a u p := rfl
theorem off0 (a u p : Nat) : C0.offN a u p = offN a u p := rfl
theorem Cols.bytes {a u n : Nat} {ws : List ByteArray} (h : Cols a u n ws) (at_ : Nat) : ∀ m : Nat, at_ + m ≤ n → C0.bytesAt ws a u at_ m = some (rdB a u ws at_ m)
  | 0, _ => rfl
  | m + 1, hm => by
    obtain ⟨s, h1, _, _, _, h2⟩ := h.col (p := at_ + m) (by omega)
    unfold C0.bytesAt
    rw [h.bytes at_ m (by omega)]
    unfold C0.byteAt
    rw [col0, off0, h1]
    simp only [h2, rdB_app]
theorem strsW : ∀ ss : List ByteArray, strsOf (rws encT ss) = some ss
  | [] => rfl
  | s :: r => by
    have := strsW r
    rw [rws_cons]; simp only [encT, strsOf, this]
theorem Cols.body {a u n : Nat} {ws : List ByteArray} (h : Cols a u n ws) (k b at_ m : Nat) (hm : at_ + m ≤ n) (R : AV) : call code (k + 1) 95 [.agg [.int .i64 a, .int .i64 b, .int .i64 u, .int .i64 n, R], .rd true (rws encT ws), .int .i64 at_, .int .i64 m] [] = some ⟨.str (B (rdB a u ws at_ m)), [], []⟩ := by
  refine nat95 _ _ _ _ _ ?_
  have e := h.bytes at_ m hm
  have c : (1 ≤ (a : Int) ∧ (a : Int) ≤ 4) ∧ (1 ≤ (u : Int) ∧ (u : Int) ≤ 8) ∧ 0 ≤ (b : Int) ∧ 0 ≤ (n : Int) ∧ 0 ≤ (at_ : Int) ∧ 0 ≤ (m : Int) ∧ (at_ : Int) + m ≤ 1000 := by
    have := h.a1; have := h.a4; have := h.u1; have := h.u8; have := h.n256
    omega
  simp only [C0.natBody, strsW]
  rw [if_pos c]
  simp only [Int.toNat_natCast, e]
  rfl
theorem bsz (l : List UInt8) : (B l).size = l.length := by simp [B, ByteArray.size]
end Go.Ae.C3
