/- What a change touches of a striped object: rows of bytes. -/
import Derived.Test.YtnfghcflpnlbiaaC3M12
import Derived.Test.YtnfghcflpnlbiaaC3M16
namespace Go.Ae.C3
set_option linter.unusedSimpArgs false
set_option linter.unusedVariables false
/-- The first byte of a column's part in a stripe. -/
def qN (a u s c : Nat) : Nat := (s * a + c) * u
def loN (u f q : Nat) : Nat := min u (f - q)
def hiN (u f m q : Nat) : Nat := min u (f + m - q)
def valN (ws : List ByteArray) (t : List UInt8) (f u s c q i : Nat) : UInt8 := t.getD (q + i - f) 0 ^^^ (ws.getD c ByteArray.empty).data.toList.getD (s * u + i) 0
def touN (u f m q i : Nat) : Bool := decide (loN u f q ≤ i) && decide (i < hiN u f m q)
def rowI (ws : List ByteArray) (t : List UInt8) (f u s c q : Nat) (i : Nat) : List UInt8 := (List.range i).map fun j => if touN u f t.length q j then valN ws t f u s c q j else 0
def tbI (ws : List ByteArray) (t : List UInt8) (f u s c q : Nat) (i : Nat) : List UInt8 := ((List.range i).filter fun j => touN u f t.length q j).map (valN ws t f u s c q)
def fstI (u f m q i : Nat) : Int := if loN u f q < min (hiN u f m q) i then (loN u f q : Int) else -1
theorem rowI_len (ws t f u s c q i) : (rowI ws t f u s c q i).length = i := by simp [rowI]
theorem rowI_succ (ws t f u s c q i) : rowI ws t f u s c q (i + 1) = rowI ws t f u s c q i ++ [if touN u f t.length q i then valN ws t f u s c q i else 0] := by simp [rowI, List.range_succ]
theorem tbI_succ (ws t f u s c q i) : tbI ws t f u s c q (i + 1) = tbI ws t f u s c q i ++ if touN u f t.length q i then [valN ws t f u s c q i] else [] := by
  unfold tbI
  rw [List.range_succ, List.filter_append, List.map_append]
  cases h : touN u f t.length q i <;> simp [h]
theorem tbI_le (ws t f u s c q i) : (tbI ws t f u s c q i).length ≤ i := by
  unfold tbI
  rw [List.length_map]
  exact Nat.le_trans (List.length_filter_le _ _) (by simp)
theorem qN_le {a u s c : Nat} (ha : a ≤ 4) (hu : 1 ≤ u ∧ u ≤ 8) (hs : s * (a * u) ≤ 300) (hc : c < a) : qN a u s c ≤ 400 ∧ s * a + c ≤ 400 ∧ s * a ≤ 300 := by
  have h1 : c * u ≤ 4 * 8 := Nat.mul_le_mul (by omega) hu.2
  have h2 : s * a ≤ s * a * u := Nat.le_mul_of_pos_right _ hu.1
  rw [← Nat.mul_assoc] at hs
  unfold qN
  rw [Nat.add_mul]
  omega
theorem fst_step {u f m q i : Nat} (hi : i < u) : fstI u f m q (i + 1) = if touN u f m q i then (if fstI u f m q i < 0 then (i : Int) else fstI u f m q i) else fstI u f m q i := by
  unfold fstI touN
  by_cases h1 : loN u f q ≤ i <;> by_cases h2 : i < hiN u f m q <;> simp only [h1, h2, decide_true, decide_false, Bool.and_true, Bool.and_false, Bool.true_and, Bool.false_and] <;> (repeat' split) <;> simp_all <;> omega
theorem tou_in {u f m q i : Nat} (hi : i < u) : inB (((q + i : Nat) : Int) - f) 0 ((m : Int) - 1) = touN u f m q i := by
  unfold inB touN loN hiN
  rw [Bool.eq_iff_iff]
  simp
  omega
theorem tou_cell {a u s c n f m i : Nat} {ws : List ByteArray} (h : Cols a u n ws) (hc : c < a) (hi : i < u) (hfm : f + m ≤ n) (ht : touN u f m (qN a u s c) i = true) : f ≤ qN a u s c + i ∧ qN a u s c + i < f + m ∧ s * u + i < tallN a u n := by
  unfold touN loN hiN at ht
  simp at ht
  have hp : posN a u c (s * u + i) = qN a u s c + i := by
    unfold posN qN
    have h1 : (s * u + i) / u = s := by rw [Nat.mul_comm, Nat.mul_add_div h.u1, Nat.div_eq_of_lt hi, Nat.add_zero]
    have h2 : (s * u + i) % u = i := by rw [Nat.mul_comm, Nat.mul_add_mod, Nat.mod_eq_of_lt hi]
    rw [h1, h2, Nat.add_mul, Nat.mul_assoc]
  have hlt : qN a u s c + i < n := by omega
  have ho := offN_lt h.a1 h.u1 (p := qN a u s c + i) (n := n) hlt
  rw [← hp, (cell_of_pos hc h.u1).2] at ho
  exact ⟨by omega, by omega, ho⟩
end Go.Ae.C3
namespace Go.Ae.C3
set_option linter.unusedSimpArgs false
set_option linter.unusedVariables false
/-- The deltas of the data's columns, and their rows. -/
def dlC (a u : Nat) (ws : List ByteArray) (t : List UInt8) (f s : Nat) (c : Nat) : List GDelta := if loN u f (qN a u s c) < hiN u f t.length (qN a u s c) then [⟨(c : Int), ((s * u + loN u f (qN a u s c) : Nat) : Int), B (tbI ws t f u s c (qN a u s c) u)⟩] else []
def dlI (a u : Nat) (ws : List ByteArray) (t : List UInt8) (f s : Nat) : Nat → List GDelta
  | 0 => []
  | c + 1 => dlI a u ws t f s c ++ dlC a u ws t f s c
def rwL (a u : Nat) (ws : List ByteArray) (t : List UInt8) (f s : Nat) (c : Nat) : List (List UInt8) := (List.range c).map fun c => rowI ws t f u s c (qN a u s c) u
theorem rwL_succ (a u ws t f s c) : rwL a u ws t f s (c + 1) = rwL a u ws t f s c ++ [rowI ws t f u s c (qN a u s c) u] := by simp [rwL, List.range_succ]
theorem rwL_len (a u ws t f s c) : (rwL a u ws t f s c).length = c := by simp [rwL]
theorem dlI_le (a u ws t f s) : ∀ c, (dlI a u ws t f s c).length ≤ c
  | 0 => by simp [dlI]
  | c + 1 => by
    have := dlI_le a u ws t f s c
    rw [dlI, List.length_append]
    unfold dlC
    split <;> simp <;> omega
/-- The deltas of the code's columns. -/
def parI (a su : Nat) (P : List (List UInt8)) (j : Nat) : List GDelta := (List.range j).map fun j => ⟨((a + j : Nat) : Int), (su : Int), B (P.getD (a + j) [])⟩
theorem parI_len (a su P j) : (parI a su P j).length = j := by simp [parI]
theorem parI_succ (a su P j) : parI a su P (j + 1) = parI a su P j ++ [⟨((a + j : Nat) : Int), (su : Int), B (P.getD (a + j) [])⟩] := by simp [parI, List.range_succ]
def dlS (a b u : Nat) (ws : List ByteArray) (t : List UInt8) (f s : Nat) : List GDelta := dlI a u ws t f s a ++ parI a (s * u) (pcs (gN a b) (a + b) a (rwL a u ws t f s a) u) b
theorem dlS_le (a b u ws t f s) : (dlS a b u ws t f s).length ≤ a + b := by
  have := dlI_le a u ws t f s a
  rw [dlS, List.length_append, parI_len]; omega
set_option maxRecDepth 100000 in
set_option maxHeartbeats 64000000 in
theorem l05Cells (k : Nat) {a b u n s f : Nat} {ws : List ByteArray} {t : List UInt8} (h : Wide a b u n ws) (hfm : f + t.length ≤ n) (hs : s * (a * u) ≤ 300) : call code (k + 6) 144 [wAV a b u n (rws encT ws), .int .i64 s, .int .i64 f, .str (B t)] [] = some ⟨.sl 0 0 0 [] 0 (dlS a b u ws t f s).length, [⟨0, 3, false, true, rws GDelta.enc (dlS a b u ws t f s)⟩], []⟩ := by
  refine call_run rfl fn144 rfl ?_
  have ha1 := h.a1
  have ha4 := h.a4
  have hu1 := h.u1
  have hu8 := h.u8
  have h256 := h.n256
  have li := fun k x y => l00In k x 0 y
  simp [F144]
  refine RunC_loop (fun c : Nat => ⟨tm 140 [(1, .int .i64 s), (2, .int .i64 f), (3, .str (B t)), (4, .ptr 0 0 0 [] 0 0), (9, .sl 0 65536 0 [] 0 (dlI a u ws t f s c).length), (10, .sl 0 131072 0 [] 0 c), (11, .int .i64 c)], [(0, some ⟨0, 5, true, false, [[.int .i64 a, .int .i64 b, .int .i64 u, .int .i64 n, .rd true (rws encT ws)]]⟩), (256, some ⟨0, 3, false, true, []⟩), (65536, some ⟨0, 3, false, true, rws GDelta.enc (dlI a u ws t f s c)⟩), (131072, some ⟨0, 1, false, true, rowsS (rwL a u ws t f s c)⟩)], []⟩)
    (fun c => c ≤ a) (fun c => a - c) 0 (Nat.zero_le _) (by simp; omega) (by simp [tm, dlI, rwL, rws, rowsS]) fun c hc _ => ?_
  by_cases hlt : c < a
  · have hsc := idx_succ' hlt (by omega)
    obtain ⟨qle, sle, sale⟩ := qN_le ha4 ⟨hu1, hu8⟩ hs hlt
    have hlo := dlI_le a u ws t f s c
    have hcw : c < ws.length := by have := h.len; omega
    simp [tm, hlt]
    refine RunC_loop (fun i : Nat => ⟨tm 140 [(1, .int .i64 s), (2, .int .i64 f), (3, .str (B t)), (4, .ptr 0 0 0 [] 0 0), (9, .sl 0 65536 0 [] 0 (dlI a u ws t f s c).length), (10, .sl 0 131072 0 [] 0 c), (11, .int .i64 c), (12, .sl 0 393216 0 [] 0 i), (13, .int .i64 (fstI u f t.length (qN a u s c) i)), (14, .sl 0 524288 0 [] 0 (tbI ws t f u s c (qN a u s c) i).length), (15, .int .i64 i)], [(0, some ⟨0, 5, true, false, [[.int .i64 a, .int .i64 b, .int .i64 u, .int .i64 n, .rd true (rws encT ws)]]⟩), (256, some ⟨0, 3, false, true, []⟩), (65536, some ⟨0, 3, false, true, rws GDelta.enc (dlI a u ws t f s c)⟩), (131072, some ⟨0, 1, false, true, rowsS (rwL a u ws t f s c)⟩), (393216, some ⟨0, 1, false, true, rws encB (rowI ws t f u s c (qN a u s c) i)⟩), (524288, some ⟨0, 1, false, true, rws encB (tbI ws t f u s c (qN a u s c) i)⟩)], []⟩)
      (fun i => i ≤ u) (fun i => u - i) 0 (Nat.zero_le _) (by simp; omega) (by simp [tm, fstI, tbI, rowI, rws]) fun i hi _ => ?_
    by_cases hiu : i < u
    · have hsi := idx_succ' hiu (by omega)
      have f1 : IntKind.wrap .i64 ((s : Int) * (a : Int)) = ((s * a : Nat) : Int) := by rw [← Int.natCast_mul, wrap64 ⟨by omega, by omega⟩]
      have f2 : IntKind.wrap .i64 (((s * a : Nat) : Int) + (c : Int)) = ((s * a + c : Nat) : Int) := by rw [wrap64 ⟨by omega, by omega⟩]; omega
      have f3 : IntKind.wrap .i64 (((s * a + c : Nat) : Int) * (u : Int)) = ((qN a u s c : Nat) : Int) := by rw [← Int.natCast_mul]; show IntKind.wrap .i64 ((qN a u s c : Nat) : Int) = _; rw [wrap64 ⟨by omega, by omega⟩]
      have f4 : IntKind.wrap .i64 (((qN a u s c : Nat) : Int) + (i : Int)) = ((qN a u s c + i : Nat) : Int) := by rw [wrap64 ⟨by omega, by omega⟩]; omega
      have f5 : IntKind.wrap .i64 (((qN a u s c + i : Nat) : Int) - (f : Int)) = ((qN a u s c + i : Nat) : Int) - (f : Int) := wrap64 ⟨by omega, by omega⟩
      have f6 : IntKind.wrap .i64 ((t.length : Int) - 1) = (t.length : Int) - 1 := wrap64 ⟨by omega, by omega⟩
      have l1 := fun k => li k (((qN a u s c + i : Nat) : Int) - (f : Int)) ((t.length : Int) - 1)
      rw [tou_in hiu] at l1
      have hst := fst_step (f := f) (m := t.length) (q := qN a u s c) hiu
      have hts := tbI_succ ws t f u s c (qN a u s c) i
      have hrs := rowI_succ ws t f u s c (qN a u s c) i
      have hrl := rowI_len ws t f u s c (qN a u s c) i
      have htl := tbI_le ws t f u s c (qN a u s c) i
      have hrl2 := rws_len (enc := encB) (rowI ws t f u s c (qN a u s c) i)
      rw [hrl] at hrl2
      have htl2 := rws_len (enc := encB) (tbI ws t f u s c (qN a u s c) i)
      cases ht : touN u f t.length (qN a u s c) i
      · rw [ht] at l1 hst hts hrs
        simp only [Bool.false_eq_true, if_false, List.append_nil] at hst hts hrs
        have hR := appB (rowI ws t f u s c (qN a u s c) i) 0
        rw [← hrs] at hR
        have hz : ((0 : UInt8).toNat : Int) = 0 := rfl
        rw [hz] at hR
        generalize hR' : rws encB (rowI ws t f u s c (qN a u s c) (i + 1)) = R' at *
        generalize hF : fstI u f t.length (qN a u s c) i = F at *
        generalize hT : tbI ws t f u s c (qN a u s c) i = T at *
        generalize rws encB (rowI ws t f u s c (qN a u s c) i) = R at *
        clear ht
        generalize hq : qN a u s c = q at *
        generalize s * a + c = sac at *
        generalize s * a = sa at *
        generalize hqi : q + i = qi at *
        simp [tm, hiu, f1, f2, f3, f4, f5, f6, rcall77, l1, hsi, evalW, source, hrl2, hR]
        exact ⟨by omega, i + 1, by omega, by omega, ⟨rfl, hst.symm, by rw [hts], by omega⟩, hR'.symm, by rw [hts]⟩
      · obtain ⟨g1, g2, g3⟩ := tou_cell h.cols hlt hiu hfm ht
        rw [ht] at l1 hst hts hrs
        simp only [if_true] at hst hts hrs
        have hR := appB (rowI ws t f u s c (qN a u s c) i) (valN ws t f u s c (qN a u s c) i)
        rw [← hrs] at hR
        have hT := appB (tbI ws t f u s c (qN a u s c) i) (valN ws t f u s c (qN a u s c) i)
        rw [← hts] at hT
        have htl3 : (tbI ws t f u s c (qN a u s c) (i + 1)).length = (tbI ws t f u s c (qN a u s c) i).length + 1 := by rw [hts]; simp
        have hsz : ws[c].size = tallN a u n := h.all _ (List.getElem_mem hcw)
        have g3' : s * u + i < ws[c].size := by omega
        have g4 : qN a u s c + i - f < t.length := by omega
        have hsu : s * u ≤ 400 := by
          have := tallN_le (n := n) ha1 hu1
          omega
        have f7 : IntKind.wrap .i64 ((s : Int) * (u : Int)) = ((s * u : Nat) : Int) := by rw [← Int.natCast_mul, wrap64 ⟨by omega, by omega⟩]
        have f8 : IntKind.wrap .i64 (((s * u : Nat) : Int) + (i : Int)) = ((s * u + i : Nat) : Int) := by rw [wrap64 ⟨by omega, by omega⟩]; omega
        have f9 : ((qN a u s c + i : Nat) : Int) - (f : Int) = ((qN a u s c + i - f : Nat) : Int) := by omega
        have b1 : ∀ hh : qN a u s c + i - f < (B t).size, (B t)[qN a u s c + i - f]'hh = t[qN a u s c + i - f] := fun hh => rfl
        have b2 : ∀ hh : s * u + i < ws[c].size, ws[c][s * u + i]'hh = ws[c].data.toList[s * u + i]'(by rw [Array.length_toList]; exact g3') := fun hh => rfl
        have hv : valN ws t f u s c (qN a u s c) i = t[qN a u s c + i - f] ^^^ ws[c].data.toList[s * u + i]'(by rw [Array.length_toList]; exact g3') := by
          unfold valN
          rw [List.getD_eq_getElem?_getD, List.getElem?_eq_getElem g4, List.getD_eq_getElem?_getD (l := ws), List.getElem?_eq_getElem hcw, List.getD_eq_getElem?_getD]
          simp only [Option.getD_some]
          rw [List.getElem?_eq_getElem (by rw [Array.length_toList]; exact g3')]
          rfl
        rw [hv] at hR hT
        have hx := gXor8 (t[qN a u s c + i - f]) (ws[c].data.toList[s * u + i]'(by rw [Array.length_toList]; exact g3'))
        rw [f9] at f5 l1
        clear hv hsz
        generalize hR' : rws encB (rowI ws t f u s c (qN a u s c) (i + 1)) = R' at *
        generalize hT' : rws encB (tbI ws t f u s c (qN a u s c) (i + 1)) = T' at *
        generalize hF : fstI u f t.length (qN a u s c) i = F at *
        generalize rws encB (tbI ws t f u s c (qN a u s c) i) = T at *
        generalize htl0 : (tbI ws t f u s c (qN a u s c) i).length = tl at *
        generalize rws encB (rowI ws t f u s c (qN a u s c) i) = R at *
        clear ht hts hrs
        generalize (t[qN a u s c + i - f] ^^^ ws[c].data.toList[s * u + i]'(by rw [Array.length_toList]; exact g3')) = X at *
        generalize hq : qN a u s c = q at *
        generalize s * a + c = sac at *
        generalize s * a = sa at *
        generalize hqf : q + i - f = qf at *
        generalize hqi : q + i = qi at *
        generalize s * u + i = sui at *
        generalize s * u = su at *
        by_cases hF0 : F < 0
        · rw [if_pos hF0] at hst
          simp [tm, hiu, f1, f2, f3, f4, f5, f6, f7, f8, f9, rcall77, l1, hsi, evalW, source, hrl2, hR, htl2, hT, g4, b1, hcw, g3', b2, hx, encT, hF0]
          have hx' : gXor .u8 (t[qf].toNat) (ws[c].data[sui].toNat) = X.toNat := hx
          exact ⟨by omega, by omega, i + 1, by omega, by omega, ⟨rfl, hst.symm, htl3.symm, by omega⟩, ((congrArg (fun z => R ++ [[AV.int .u8 z]]) hx').trans hR).trans hR'.symm, ((congrArg (fun z => T ++ [[AV.int .u8 z]]) hx').trans hT).trans hT'.symm⟩
        · rw [if_neg hF0] at hst
          simp [tm, hiu, f1, f2, f3, f4, f5, f6, f7, f8, f9, rcall77, l1, hsi, evalW, source, hrl2, hR, htl2, hT, g4, b1, hcw, g3', b2, hx, encT, hF0]
          have hx' : gXor .u8 (t[qf].toNat) (ws[c].data[sui].toNat) = X.toNat := hx
          exact ⟨by omega, by omega, i + 1, by omega, by omega, ⟨rfl, hst.symm, htl3.symm, by omega⟩, ((congrArg (fun z => R ++ [[AV.int .u8 z]]) hx').trans hR).trans hR'.symm, ((congrArg (fun z => T ++ [[AV.int .u8 z]]) hx').trans hT).trans hT'.symm⟩
    · have : i = u := by omega
      subst this
      have hrow := rowI_len ws t f i s c (qN a i s c) i
      have hbt := bytesOf_rws (rowI ws t f i s c (qN a i s c) i)
      have hrl := rws_len (enc := encB) (rowI ws t f i s c (qN a i s c) i)
      rw [hrow] at hrl
      have htk : (rws encB (rowI ws t f i s c (qN a i s c) i)).take i = rws encB (rowI ws t f i s c (qN a i s c) i) := List.take_of_length_le (by omega)
      have happ := rowsS_app (rwL a i ws t f s c) (rowI ws t f i s c (qN a i s c) i)
      rw [← rwL_succ] at happ
      have hsl := rowsS_len (rwL a i ws t f s c)
      rw [rwL_len] at hsl
      have hBm : (⟨(rowI ws t f i s c (qN a i s c) i).toArray⟩ : ByteArray) = B (rowI ws t f i s c (qN a i s c) i) := rfl
      have hbt2 := bytesOf_rws (tbI ws t f i s c (qN a i s c) i)
      have htl2 := rws_len (enc := encB) (tbI ws t f i s c (qN a i s c) i)
      have htk2 : (rws encB (tbI ws t f i s c (qN a i s c) i)).take (tbI ws t f i s c (qN a i s c) i).length = rws encB (tbI ws t f i s c (qN a i s c) i) := List.take_of_length_le (by omega)
      have hBm2 : (⟨(tbI ws t f i s c (qN a i s c) i).toArray⟩ : ByteArray) = B (tbI ws t f i s c (qN a i s c) i) := rfl
      have htl := tbI_le ws t f i s c (qN a i s c) i
      have hsu : s * i ≤ 400 := by
        have h1 : i ≤ a * i := Nat.le_mul_of_pos_left i ha1
        have := Nat.mul_le_mul_left s h1
        omega
      have f7 : IntKind.wrap .i64 ((s : Int) * (i : Int)) = ((s * i : Nat) : Int) := by rw [← Int.natCast_mul, wrap64 ⟨by omega, by omega⟩]
      have hdl := rws_len (enc := GDelta.enc) (dlI a i ws t f s c)
      have hdn : dlI a i ws t f s (c + 1) = dlI a i ws t f s c ++ dlC a i ws t f s c := rfl
      have hlou : loN i f (qN a i s c) ≤ i := Nat.min_le_left _ _
      have hhiu : hiN i f t.length (qN a i s c) ≤ i := Nat.min_le_left _ _
      by_cases hlh : loN i f (qN a i s c) < hiN i f t.length (qN a i s c)
      · have hF : fstI i f t.length (qN a i s c) i = (loN i f (qN a i s c) : Nat) := by unfold fstI; rw [if_pos (by omega)]
        have hdC : dlC a i ws t f s c = [⟨(c : Int), ((s * i + loN i f (qN a i s c) : Nat) : Int), B (tbI ws t f i s c (qN a i s c) i)⟩] := by unfold dlC; rw [if_pos hlh]
        have f8 : IntKind.wrap .i64 (((s * i : Nat) : Int) + ((loN i f (qN a i s c) : Nat) : Int)) = ((s * i + loN i f (qN a i s c) : Nat) : Int) := by rw [wrap64 ⟨by omega, by omega⟩]; omega
        have hdr : rws GDelta.enc (dlI a i ws t f s c) ++ [[.int .i64 (c : Int), .int .i64 ((s * i + loN i f (qN a i s c) : Nat) : Int), .str (B (tbI ws t f i s c (qN a i s c) i))]] = rws GDelta.enc (dlI a i ws t f s (c + 1)) := by
          rw [hdn, hdC, rws_app]; rfl
        have hdln : (dlI a i ws t f s (c + 1)).length = (dlI a i ws t f s c).length + 1 := by rw [hdn, hdC]; simp
        rw [hF]
        have hall : ∀ y ∈ rws GDelta.enc (dlI a i ws t f s c), y.length = 3 := fun y hy => by
          have := List.all_eq_true.1 (rws_all GDelta.enc (sz := 3) (fun _ => rfl) (dlI a i ws t f s c)) y hy
          simpa using this
        clear hdn hdC hF hrow
        generalize hRR : rowsS (rwL a i ws t f s (c + 1)) = RR' at *
        generalize rowsS (rwL a i ws t f s c) = RR at *
        generalize rws encB (rowI ws t f i s c (qN a i s c) i) = R at *
        generalize rws encB (tbI ws t f i s c (qN a i s c) i) = T at *
        generalize hDR : rws GDelta.enc (dlI a i ws t f s (c + 1)) = D' at *
        generalize rws GDelta.enc (dlI a i ws t f s c) = D at *
        generalize hdl0 : (dlI a i ws t f s c).length = dl at *
        generalize htl0 : (tbI ws t f i s c (qN a i s c) i).length = tl at *
        generalize s * i + loN i f (qN a i s c) = sl at *
        generalize s * i = su at *
        generalize loN i f (qN a i s c) = lo at *
        simp [tm, hsl, htk, hbt, hBm, hrl, happ, evalW, source, f7, f8, htk2, hbt2, hBm2, htl2, hdl, hdr, hsc]
        exact ⟨⟨by omega, by omega⟩, ⟨by omega, by omega⟩, c + 1, by omega, by omega, ⟨hdln.symm, rfl, by omega⟩, hDR.symm, hRR.symm⟩
      · have hF : fstI i f t.length (qN a i s c) i = -1 := by unfold fstI; rw [if_neg (by omega)]
        have hdC : dlC a i ws t f s c = [] := by unfold dlC; rw [if_neg hlh]
        rw [hdC, List.append_nil] at hdn
        have hdr : rws GDelta.enc (dlI a i ws t f s (c + 1)) = rws GDelta.enc (dlI a i ws t f s c) := by rw [hdn]
        have hdln : (dlI a i ws t f s (c + 1)).length = (dlI a i ws t f s c).length := by rw [hdn]
        rw [hF]
        clear hdn hdC hF hrow
        generalize hRR : rowsS (rwL a i ws t f s (c + 1)) = RR' at *
        generalize rowsS (rwL a i ws t f s c) = RR at *
        generalize rws encB (rowI ws t f i s c (qN a i s c) i) = R at *
        generalize rws encB (tbI ws t f i s c (qN a i s c) i) = T at *
        generalize rws GDelta.enc (dlI a i ws t f s c) = D at *
        generalize hdl0 : (dlI a i ws t f s c).length = dl at *
        generalize htl0 : (tbI ws t f i s c (qN a i s c) i).length = tl at *
        simp [tm, hsl, htk, hbt, hBm, hrl, happ, evalW, source, hdl, hsc]
        exact ⟨⟨by omega, by omega⟩, c + 1, by omega, by omega, ⟨hdln.symm, rfl, by omega⟩, hdr.symm, hRR.symm⟩
  · have : c = a := by omega
    subst this
    have hco := fun k => l03Code k c b ha1 (by have := h.b3; omega)
    have hb3 := h.b3
    have hgl := gN_len (k := c) (m := b)
    have hgc := gN_cast (k := c) (m := b) (by omega)
    have hgt := gN_lt (k := c) (m := b) (by omega)
    have hra : ∀ x ∈ rwL c u ws t f s c, x.length = u := fun x hx => by
      simp only [rwL, List.mem_map] at hx
      obtain ⟨j, _, rfl⟩ := hx
      exact rowI_len ..
    have hpi := fun k => l03Pieces k (c + b) c (gN c b) (rwL c u ws t f s c) u (by omega) (by omega) hgl hgt (rwL_len c u ws t f s c) hra (by omega)
    rw [hgc] at hpi
    have hsl := rowsS_len (rwL c u ws t f s c)
    rw [rwL_len] at hsl
    have htk : (rowsS (rwL c u ws t f s c)).take c = rowsS (rwL c u ws t f s c) := List.take_of_length_le (by omega)
    have hz := rowsZ_len (gz c b 0)
    have htz : (rowsZ (gz c b 0)).take (gz c b 0).length = rowsZ (gz c b 0) := List.take_of_length_le (by omega)
    have hPl := pcs_len (gN c b) (c + b) c (rwL c u ws t f s c) u
    have hab : IntKind.wrap .i64 ((c : Int) + (b : Int)) = ((c + b : Nat) : Int) := by rw [wrap64 ⟨by omega, by omega⟩]; omega
    have hdle := dlI_le c u ws t f s c
    clear hgl hgc hgt hra
    have hsu : s * u ≤ 400 := by
      have h1 : u ≤ c * u := Nat.le_mul_of_pos_left u ha1
      have := Nat.mul_le_mul_left s h1
      omega
    have f7 : IntKind.wrap .i64 ((s : Int) * (u : Int)) = ((s * u : Nat) : Int) := by rw [← Int.natCast_mul, wrap64 ⟨by omega, by omega⟩]
    unfold dlS
    generalize hP : pcs (gN c b) (c + b) c (rwL c u ws t f s c) u = P at *
    have hPr := rowsS_len P
    rw [hPl] at hPr
    generalize (gz c b 0).length = gl at *
    generalize rowsZ (gz c b 0) = G at *
    generalize hab0 : c + b = ab at *
    simp [tm, rcall133, hco, rcall132, hpi, hsl, htk, hz, htz, hPl]
    generalize s * u = su at *
    refine RunC_loop (fun j : Nat => ⟨tm 140 [(1, .int .i64 s), (4, .ptr 0 0 0 [] 0 0), (9, .sl 0 65536 0 [] 0 ((dlI c u ws t f s c).length + j)), (18, .sl 0 1509376 0 [] 0 ab), (19, .int .i64 (c + j : Nat))], [(0, some ⟨0, 5, true, false, [[.int .i64 c, .int .i64 b, .int .i64 u, .int .i64 n, .rd true (rws encT ws)]]⟩), (256, some ⟨0, 3, false, true, []⟩), (65536, some ⟨0, 3, false, true, rws GDelta.enc (dlI c u ws t f s c ++ parI c su P j)⟩), (131072, some ⟨0, 1, false, true, rowsS (rwL c u ws t f s c)⟩), (1508864, some ⟨0, 1, false, true, G⟩), (1509376, some ⟨0, 1, false, true, rowsS P⟩)], []⟩)
      (fun j => j ≤ b) (fun j => b - j) 0 (Nat.zero_le _) (by simp; omega) (by simp [tm, parI]) fun j hj _ => ?_
    have hdl := rws_len (enc := GDelta.enc) (dlI c u ws t f s c ++ parI c su P j)
    rw [List.length_append, parI_len] at hdl
    by_cases hjb : j < b
    · have hcj : c + j < ab := by omega
      have hs1 : IntKind.wrap .i64 (((c + j : Nat) : Int) + 1) = ((c + (j + 1) : Nat) : Int) := by rw [wrap64 ⟨by omega, by omega⟩]; omega
      have hrow : ∀ hh : c + j < (rowsS P).length, (rowsS P)[c + j]'hh = [.str (B (P.getD (c + j) []))] := fun hh => rowsS_at (by omega) hh
      have hdr : rws GDelta.enc (dlI c u ws t f s c ++ parI c su P j) ++ [[.int .i64 ((c + j : Nat) : Int), .int .i64 (su : Int), .str (B (P.getD (c + j) []))]] = rws GDelta.enc (dlI c u ws t f s c ++ parI c su P (j + 1)) := by
        rw [parI_succ, ← List.append_assoc]
        exact (rws_app (enc := GDelta.enc) (dlI c u ws t f s c ++ parI c su P j) [⟨((c + j : Nat) : Int), (su : Int), B (P.getD (c + j) [])⟩]).symm
      generalize hd0 : (dlI c u ws t f s c).length = dl at *
      generalize B (P.getD (c + j) []) = X at *
      generalize rowsS P = PR at *
      generalize hDR : rws GDelta.enc (dlI c u ws t f s c ++ parI c su P (j + 1)) = D' at *
      generalize rws GDelta.enc (dlI c u ws t f s c ++ parI c su P j) = D at *
      generalize hcj1 : c + (j + 1) = cj1 at *
      generalize hcj0 : c + j = cj at *
      simp [tm, hab, hcj, hs1, f7, hrow, hPr, evalW, source, hdl, hdr]
      exact ⟨⟨by omega, by omega⟩, j + 1, by omega, by omega, ⟨by omega, by omega⟩, hDR.symm⟩
    · have : j = b := by omega
      subst this
      have hcj : ¬ c + j < ab := by omega
      have htk : (rws GDelta.enc (dlI c u ws t f s c ++ parI c su P j)).take ((dlI c u ws t f s c).length + j) = rws GDelta.enc (dlI c u ws t f s c ++ parI c su P j) := List.take_of_length_le (by omega)
      generalize hd0 : (dlI c u ws t f s c).length = dl at *
      generalize rws GDelta.enc (dlI c u ws t f s c ++ parI c su P j) = D at *
      generalize hcj0 : c + j = cj at *
      simp [tm, hab, hcj, hdl, htk, parI_len]
end Go.Ae.C3
namespace Go.Ae.C3
set_option linter.unusedSimpArgs false
set_option linter.unusedVariables false
/-- The deltas of the first stripes. -/
def dsI (a b u : Nat) (ws : List ByteArray) (t : List UInt8) (f s0 : Nat) : Nat → List GDelta
  | 0 => []
  | j + 1 => dsI a b u ws t f s0 j ++ dlS a b u ws t f (s0 + j)
theorem dsI_le (a b u ws t f s0) : ∀ j, (dsI a b u ws t f s0 j).length ≤ j * (a + b)
  | 0 => by simp [dsI]
  | j + 1 => by
    have h1 := dsI_le a b u ws t f s0 j
    have h2 := dlS_le a b u ws t f (s0 + j)
    rw [dsI, List.length_append, Nat.add_mul, Nat.one_mul]; omega
/-- How many stripes. -/
def nsN (a u f m : Nat) : Nat := if m = 0 then 0 else (f + m - 1) / (a * u) + 1 - f / (a * u)
def dAll (a b u : Nat) (ws : List ByteArray) (t : List UInt8) (f : Nat) : List GDelta := dsI a b u ws t f (f / (a * u)) (nsN a u f t.length)
theorem l05Within (k : Nat) (a b u n : Nat) (R : List (List AV)) (f : Int) (t : List UInt8) (hn : n ≤ 256) (ht : t.length ≤ 1048576) : call code (k + 2) 113 [wAV a b u n R, .int .i64 f, .str (B t)] [] = some ⟨.bool (inB f 0 n && decide ((t.length : Int) ≤ (n : Int) - f)), [], []⟩ := by
  refine call_run rfl fn113 rfl ?_
  have l := fun k => l00In k f 0 n
  cases c : inB f 0 n
  · rw [c] at l
    simp [F113, rcall77, l]
  rw [c] at l
  have w : IntKind.wrap .i64 ((n : Int) - f) = (n : Int) - f := by
    simp [inB] at c
    exact wrap64 ⟨by omega, by omega⟩
  simp [F113, rcall77, l, w]
set_option maxRecDepth 100000 in
set_option maxHeartbeats 64000000 in
theorem l05Deltas (k : Nat) {a b u n f : Nat} {ws : List ByteArray} {t : List UInt8} (h : Wide a b u n ws) (hfm : f + t.length ≤ n) : call code (k + 7) 114 [wAV a b u n (rws encT ws), .int .i64 f, .str (B t)] [] = some ⟨.sl 0 0 0 [] 0 (dAll a b u ws t f).length, [⟨0, 3, false, true, rws GDelta.enc (dAll a b u ws t f)⟩], []⟩ := by
  refine call_run rfl fn114 rfl ?_
  have ha1 := h.a1
  have ha4 := h.a4
  have hu1 := h.u1
  have hu8 := h.u8
  have hb3 := h.b3
  have h256 := h.n256
  unfold dAll nsN
  by_cases hz : t.length = 0
  · have hz' : t = [] := List.length_eq_zero_iff.1 hz
    subst hz'
    simp [F114, dsI, rws]
  rw [if_neg hz]
  have hz0 : ((t.length : Int) == 0) = false := by rw [beq_eq_false_iff_ne]; omega
  have hau := mul_le a u ha4 hu8
  have hau1 := mul_pos' ha1 hu1
  have hau0 : a * u ≤ 32 := hau
  have hau' : IntKind.wrap .i64 ((a : Int) * (u : Int)) = ((a * u : Nat) : Int) := by rw [← Int.natCast_mul, wrap64 ⟨by omega, by omega⟩]
  have lc := fun k s hs => l05Cells k (s := s) (f := f) (t := t) h hfm hs
  generalize hS : a * u = S at *
  have hS0 : ¬ S = 0 := by omega
  obtain ⟨d1, d1'⟩ := wdiv (x := f) (y := S) (by omega)
  obtain ⟨d2, d2'⟩ := wdiv (x := f + t.length - 1) (y := S) (by omega)
  have w1 : IntKind.wrap .i64 ((f : Int) + (t.length : Int)) = ((f + t.length : Nat) : Int) := by rw [wrap64 ⟨by omega, by omega⟩]; omega
  have w2 : IntKind.wrap .i64 (((f + t.length : Nat) : Int) - 1) = ((f + t.length - 1 : Nat) : Int) := by rw [wrap64 ⟨by omega, by omega⟩]; omega
  have hle : f / S ≤ (f + t.length - 1) / S := Nat.div_le_div_right (by omega)
  have hq : (f + t.length - 1) / S * S ≤ f + t.length - 1 := Nat.div_mul_le_self _ _
  have hql : (f + t.length - 1) / S ≤ f + t.length - 1 := Nat.div_le_self _ _
  have hn1 : f + t.length - 1 ≤ 256 := by omega
  generalize hfm0 : f + t.length = fm at *
  generalize fm - 1 = fm1 at *
  generalize f / S = s0 at *
  generalize fm1 / S = s1 at *
  obtain ⟨m, hm⟩ : ∃ m, m = s1 + 1 - s0 := ⟨_, rfl⟩
  rw [← hm]
  simp [F114, hz0, hz, hau', hS0, d1, d1']
  refine RunC_loop (fun j : Nat => ⟨tm 43 [(1, .int .i64 f), (2, .str (B t)), (3, .ptr 0 0 0 [] 0 0), (7, .sl 0 65536 0 [] 0 (dsI a b u ws t f s0 j).length), (8, .int .i64 S), (9, .int .i64 (s0 + j : Nat))], [(0, some ⟨0, 5, true, false, [[.int .i64 a, .int .i64 b, .int .i64 u, .int .i64 n, .rd true (rws encT ws)]]⟩), (256, some ⟨0, 3, false, true, []⟩), (65536, some ⟨0, 3, false, true, rws GDelta.enc (dsI a b u ws t f s0 j)⟩)], []⟩)
    (fun j => j ≤ m) (fun j => m - j) 0 (Nat.zero_le _) (by simp; omega) (by simp [tm, dsI, rws]) fun j hj _ => ?_
  have hdl := rws_len (enc := GDelta.enc) (dsI a b u ws t f s0 j)
  have hdle := dsI_le a b u ws t f s0 j
  by_cases hjm : j < m
  · have hs1 : IntKind.wrap .i64 (((s0 + j : Nat) : Int) + 1) = ((s0 + (j + 1) : Nat) : Int) := by rw [wrap64 ⟨by omega, by omega⟩]; omega
    have hlt : s0 + j ≤ s1 := by omega
    have hc := fun k => lc k (s0 + j) (by have := Nat.mul_le_mul_right S hlt; omega)
    have hcl := dlS_le a b u ws t f (s0 + j)
    have hdr : rws GDelta.enc (dsI a b u ws t f s0 j) ++ rws GDelta.enc (dlS a b u ws t f (s0 + j)) = rws GDelta.enc (dsI a b u ws t f s0 (j + 1)) := by rw [dsI, rws_app]
    have hdn : (dsI a b u ws t f s0 (j + 1)).length = (dsI a b u ws t f s0 j).length + (dlS a b u ws t f (s0 + j)).length := by rw [dsI, List.length_append]
    have hcr := rws_len (enc := GDelta.enc) (dlS a b u ws t f (s0 + j))
    have htk := tkE (enc := GDelta.enc) (l := dlS a b u ws t f (s0 + j)) rfl
    have hall : ∀ y ∈ rws GDelta.enc (dlS a b u ws t f (s0 + j)), y.length = 3 := fun y hy => by
      have := List.all_eq_true.1 (rws_all GDelta.enc (sz := 3) (fun _ => rfl) (dlS a b u ws t f (s0 + j))) y hy
      simpa using this
    have hjb : j * (a + b) ≤ 256 * 7 := Nat.mul_le_mul (by omega) (by omega)
    unfold wAV at hc
    generalize hDR : rws GDelta.enc (dsI a b u ws t f s0 (j + 1)) = D' at *
    generalize rws GDelta.enc (dsI a b u ws t f s0 j) = D at *
    generalize hd0 : (dsI a b u ws t f s0 j).length = dl at *
    generalize rws GDelta.enc (dlS a b u ws t f (s0 + j)) = C at *
    generalize (dlS a b u ws t f (s0 + j)).length = cl at *
    generalize hsj1 : s0 + (j + 1) = sj1 at *
    generalize hsj : s0 + j = sj at *
    simp [tm, w1, w2, hS0, d2, d2', hlt, hs1, rcall144, hc, evalW, source, hdl, hcr, htk, hdr]
    exact ⟨hall, ⟨by omega, by omega⟩, j + 1, by omega, by omega, ⟨hdn.symm, by omega⟩, hDR.symm⟩
  · have : j = m := by omega
    subst this
    have hlt : ¬ s0 + j ≤ s1 := by omega
    have htk := tkE (enc := GDelta.enc) (l := dsI a b u ws t f s0 j) rfl
    generalize rws GDelta.enc (dsI a b u ws t f s0 j) = D at *
    generalize hsj : s0 + j = sj at *
    simp [tm, w1, w2, hS0, d2, d2', hlt, hdl, htk]
end Go.Ae.C3
