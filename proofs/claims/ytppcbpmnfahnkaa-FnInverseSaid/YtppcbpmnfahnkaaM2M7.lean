/- a8At, a8Places: places drawn out of bytes. -/
import Derived.Test.YtppcbpmnfahnkaaM2M6
namespace Go.Ae.M2
set_option linter.unusedSimpArgs false
set_option linter.unusedVariables false
def encU (b : UInt8) : List AV := [.int .u8 b.toNat]
def bAt (l : List UInt8) (i : Nat) : Nat := (l.getD (i % l.length) 0).toNat
def aAt (l : List UInt8) (i n : Nat) : Nat := if n ≤ 1 then 0 else if l.length = 0 then i * 7 % n else (bAt l i * 31 + bAt l (i + 1) + i / l.length) % n
theorem aAt_lt (l : List UInt8) (i n : Nat) (hn : 1 ≤ n) : aAt l i n < n := by
  unfold aAt
  split
  · omega
  · split <;> exact Nat.mod_lt _ (by omega)
theorem a8At (k : Nat) (l : List UInt8) (i n : Nat) (hl : l.length ≤ 1048576) (hi : i ≤ 1000) (hn : n ≤ 1000) : call code (k + 1) 18 [.rd true (rws encU l), .int .i64 i, .int .i64 n] [] = some ⟨.int .i64 (aAt l i n : Nat), [], []⟩ := by
  refine call_run rfl fn18 rfl ?_
  by_cases h1 : n ≤ 1
  · have h1' : decide ((n : Int) ≤ 1) = true := by simp; omega
    simp [F18, h1', aAt, h1]
  have h1' : decide ((n : Int) ≤ 1) = false := by simp; omega
  have hn0 : ¬ n = 0 := by omega
  by_cases h2 : l = []
  · subst h2
    have e1 : IntKind.wrap .i64 ((i : Int) * 7) = ((i * 7 : Nat) : Int) := by rw [wrap64 ⟨by omega, by omega⟩]; omega
    have e2 : ((i * 7 : Nat) : Int).tmod (n : Int) = ((i * 7 % n : Nat) : Int) := rfl
    have hr : aAt [] i n = i * 7 % n := by simp [aAt, h1]
    rw [hr]
    generalize i * 7 % n = r at *
    generalize i * 7 = s at *
    simp [F18, h1', hn0, e1, e2]
  · have h3 : 0 < l.length := List.length_pos_iff.2 h2
    have h3' : ((l.length : Int) == 0) = false := by simp; omega
    have hL : ¬ l.length = 0 := by omega
    have hr : aAt l i n = (bAt l i * 31 + bAt l (i + 1) + i / l.length) % n := by simp [aAt, h1, hL]
    rw [hr]
    have x1 := Nat.mod_lt i h3
    have x2 := Nat.mod_lt (i + 1) h3
    have g1 : ∀ h, (rws encU l)[i % l.length]'h = [.int .u8 ((bAt l i : Nat) : Int)] := fun h => by
      rw [rws_get]; simp [encU, bAt, List.getD_eq_getElem?_getD, List.getElem?_eq_getElem x1]
    have g2 : ∀ h, (rws encU l)[(i + 1) % l.length]'h = [.int .u8 ((bAt l (i + 1) : Nat) : Int)] := fun h => by
      rw [rws_get]; simp [encU, bAt, List.getD_eq_getElem?_getD, List.getElem?_eq_getElem x2]
    have c1 : bAt l i < 256 := by unfold bAt; exact UInt8.toNat_lt _
    have c2 : bAt l (i + 1) < 256 := by unfold bAt; exact UInt8.toNat_lt _
    have c3 : i / l.length ≤ 1000 := Nat.le_trans (Nat.div_le_self _ _) hi
    have d1 : (i : Int).tmod (l.length : Int) = ((i % l.length : Nat) : Int) := rfl
    have d2 : ((i + 1 : Nat) : Int).tmod (l.length : Int) = (((i + 1) % l.length : Nat) : Int) := rfl
    have d3 : (i : Int).tdiv (l.length : Int) = ((i / l.length : Nat) : Int) := rfl
    have hs : IntKind.wrap .i64 ((i : Int) + 1) = ((i + 1 : Nat) : Int) := by rw [wrap64 ⟨by omega, by omega⟩]; omega
    have hln := rws_len (enc := encU) l
    generalize rws encU l = R at *
    generalize l.length = L at *
    generalize i % L = im at *
    generalize (i + 1) % L = jm at *
    generalize i / L = q at *
    generalize i + 1 = j at *
    generalize bAt l i = u at *
    generalize bAt l j = v at *
    have w1 : IntKind.wrap .i64 (u : Int) = (u : Int) := wrap64 ⟨by omega, by omega⟩
    have w2 : IntKind.wrap .i64 (v : Int) = (v : Int) := wrap64 ⟨by omega, by omega⟩
    have w7 : IntKind.wrap .i64 (q : Int) = (q : Int) := wrap64 ⟨by omega, by omega⟩
    have w3 : IntKind.wrap .i64 ((u : Int) * 31) = ((u * 31 : Nat) : Int) := by rw [wrap64 ⟨by omega, by omega⟩]; omega
    have w4 : IntKind.wrap .i64 (((u * 31 : Nat) : Int) + (v : Int)) = ((u * 31 + v : Nat) : Int) := by rw [wrap64 ⟨by omega, by omega⟩]; omega
    have w5 : IntKind.wrap .i64 (((u * 31 + v : Nat) : Int) + (q : Int)) = ((u * 31 + v + q : Nat) : Int) := by rw [wrap64 ⟨by omega, by omega⟩]; omega
    have w6 : ((u * 31 + v + q : Nat) : Int).tmod (n : Int) = (((u * 31 + v + q) % n : Nat) : Int) := rfl
    generalize (u * 31 + v + q) % n = r at *
    generalize u * 31 + v + q = t3 at *
    generalize u * 31 + v = t2 at *
    generalize u * 31 = t1 at *
    simp [F18, h1', hn0, h3', hL, hln, hs, x1, x2, g1, g2, d1, d2, d3, w1, w2, w3, w4, w5, w6, w7]
/-- The places drawn from those below i. -/
def plc (l : List UInt8) (m n : Nat) : Nat → List Nat
  | 0 => []
  | i + 1 => if decide ((plc l m n i).length < m) && (decide (n - i = m - (plc l m n i).length) || decide (aAt l i (n - i) < m - (plc l m n i).length)) then plc l m n i ++ [i] else plc l m n i
theorem plc_len (l : List UInt8) (m n : Nat) : ∀ i, (plc l m n i).length ≤ m
  | 0 => by simp [plc]
  | i + 1 => by
    have := plc_len l m n i
    unfold plc
    split
    · rename_i h
      simp at h
      simp; omega
    · exact this
theorem plc_full (l : List UInt8) (m n : Nat) (hmn : m ≤ n) : ∀ i, i ≤ n → m - (plc l m n i).length ≤ n - i
  | 0, _ => by simp [plc]; exact hmn
  | i + 1, hi => by
    have h1 := plc_full l m n hmn i (by omega)
    have h2 := plc_len l m n i
    unfold plc
    split
    · simp; omega
    · rename_i h
      simp at h
      by_cases h3 : (plc l m n i).length < m
      · have := (h h3).1
        omega
      · omega
theorem plc_all (l : List UInt8) (m n : Nat) (hmn : m ≤ n) : (plc l m n n).length = m := by
  have h1 := plc_full l m n hmn n (Nat.le_refl _)
  have h2 := plc_len l m n n
  omega
set_option maxHeartbeats 4000000 in
theorem a8Places (k : Nat) (l : List UInt8) (m n : Nat) (hl : l.length ≤ 1048576) (hm : m ≤ 8) (hn : n ≤ 8) :
    call code (k + 2) 19 [.rd true (rws encU l), .int .i64 m, .int .i64 n] [] = some ⟨.sl 0 0 0 [] 0 (plc l m n n).length, [⟨0, 1, false, true, rowsZ (castL (plc l m n n))⟩], []⟩ := by
  refine call_run rfl fn19 rfl ?_
  simp [F19]
  refine RunC_loop (fun i : Nat => ⟨tm 44 [(0, .rd true (rws encU l)), (1, .int .i64 m), (2, .int .i64 n), (7, .sl 0 65536 0 [] 0 (plc l m n i).length), (8, .int .i64 i)], [(0, some ⟨0, 1, false, true, []⟩), (65536, some ⟨0, 1, false, true, rowsZ (castL (plc l m n i))⟩)], []⟩)
    (fun i => i ≤ n) (fun i => n - i) 0 (Nat.zero_le _) (by simp; omega) (by simp [tm, plc, rowsZ, castL]) fun i hi _ => ?_
  by_cases hlt : i < n
  · have hs := idx_succ' hlt (by omega)
    have hpl := plc_len l m n i
    have hrl : (rowsZ (castL (plc l m n i))).length = (plc l m n i).length := by rw [rowsZ_len, castL_len]
    have e1 : IntKind.wrap .i64 ((n : Int) - (i : Int)) = ((n - i : Nat) : Int) := by rw [wrap64 ⟨by omega, by omega⟩]; omega
    have e2 : IntKind.wrap .i64 ((m : Int) - ((plc l m n i).length : Int)) = ((m - (plc l m n i).length : Nat) : Int) := by rw [wrap64 ⟨by omega, by omega⟩]; omega
    have ha := fun k => a8At k l i (n - i) hl (by omega) (by omega)
    have hnext : plc l m n (i + 1) = if decide ((plc l m n i).length < m) && (decide (n - i = m - (plc l m n i).length) || decide (aAt l i (n - i) < m - (plc l m n i).length)) then plc l m n i ++ [i] else plc l m n i := rfl
    have happ : rowsZ (castL (plc l m n i)) ++ [[.int .i64 (i : Int)]] = rowsZ (castL (plc l m n i ++ [i])) := by simp [rowsZ, castL]
    have hal : (plc l m n i ++ [i]).length = (plc l m n i).length + 1 := by simp
    have hAl : (plc l m n i).length < m ↔ 0 < m - (plc l m n i).length := by omega
    simp only [hAl] at hnext
    generalize hPe : plc l m n (i + 1) = P' at *
    generalize plc l m n i = P at *
    generalize m - P.length = A at *
    generalize hleft : n - i = left at *
    generalize aAt l i left = v at *
    have happ' : (rowsZ (castL P)).length = P.length := hrl
    generalize hR' : rowsZ (castL (P ++ [i])) = R' at *
    generalize hR : rowsZ (castL P) = R at *
    by_cases hA : 0 < A
    · by_cases h2 : left = A
      · subst h2
        have hP' : P' = P ++ [i] := by rw [hnext]; simp [hA]
        simp [tm, hlt, hs, e1, e2, hA, source, evalW, hrl, happ]
        refine ⟨⟨by omega, by omega⟩, i + 1, by omega, by omega, ?_⟩
        rw [hPe, hP']; simp [hR']
      · have h2' : ((left : Int) == (A : Int)) = false := by simp; omega
        by_cases h3 : v < A
        · have hP' : P' = P ++ [i] := by rw [hnext]; simp [hA, h3]
          simp [tm, hlt, hs, e1, e2, hA, h2', h2, rcall18, ha, h3, source, evalW, hrl, happ]
          refine ⟨⟨by omega, by omega⟩, i + 1, by omega, by omega, ?_⟩
          rw [hPe, hP']; simp [hR']
        · have hP' : P' = P := by rw [hnext]; simp [hA, h3, h2]
          simp [tm, hlt, hs, e1, e2, hA, h2', h2, rcall18, ha, h3]
          refine ⟨i + 1, by omega, by omega, ?_⟩
          rw [hPe, hP']; simp [hR]
    · have hA0 : A = 0 := by omega
      subst hA0
      have hP' : P' = P := by rw [hnext]; simp
      simp [tm, hlt, hs, e1, e2]
      refine ⟨i + 1, by omega, by omega, ?_⟩
      rw [hPe, hP']; simp [hR]
  · have : i = n := by omega
    subst this
    simp [tm]
end Go.Ae.M2
namespace Go.Ae.M2
set_option linter.unusedSimpArgs false
set_option linter.unusedVariables false
/-- The cells of the rows at some places. -/
def rwsAt (an : List Nat) (w : Nat) (ps : List Nat) : List Nat := ps.flatMap fun p => prt an (p * w) ((p + 1) * w)
theorem rwsAt_len {an : List Nat} {h w : Nat} {ps : List Nat} (la : an.length = h * w) (hp : ∀ p ∈ ps, p < h) : (rwsAt an w ps).length = ps.length * w := by
  induction ps with
  | nil => simp [rwsAt]
  | cons p r ih =>
    have h1 := ih fun q hq => hp q (List.mem_cons_of_mem _ hq)
    have h2 : (p + 1) * w ≤ h * w := Nat.mul_le_mul_right _ (hp p (List.mem_cons_self ..))
    have h3 : (prt an (p * w) ((p + 1) * w)).length = w := by rw [prt_len (by rw [la]; exact h2), Nat.add_mul]; omega
    unfold rwsAt at h1 ⊢
    rw [List.flatMap_cons, List.length_append, h1, h3, List.length_cons, Nat.add_mul]; omega
theorem rwsAt_next {an : List Nat} {w i : Nat} {ps : List Nat} (hi : i < ps.length) : rwsAt an w (ps.take (i + 1)) = rwsAt an w (ps.take i) ++ prt an (ps[i] * w) ((ps[i] + 1) * w) := by
  unfold rwsAt
  rw [List.take_succ_eq_append_getElem hi, List.flatMap_append]; simp
theorem outRow (k : Nat) (h w : Int) (ws : List Int) (p : Int) (hh : inB h 1 8 = true) : call code (k + 2) 43 [.int .i64 p, .rptr [.int .i64 h, .int .i64 w, .rd true (rowsZ ws)]] [] = some ⟨.bool (!inB p 0 (h - 1)), [], []⟩ := by
  refine call_run rfl fn43 rfl ?_
  simp [inB] at hh
  have e1 : IntKind.wrap .i64 (h - 1) = h - 1 := wrap64 ⟨by omega, by omega⟩
  simp [F43, e1, rcall30, between]
theorem anyOut (k : Nat) (h w : Int) (ws : List Int) (ps : List Int) (hh : inB h 1 8 = true) (hn : ps.length ≤ 1000000000) :
    call code (k + 4) 42 [.rd true (rowsZ ps), .fn 43 [.rptr [.int .i64 h, .int .i64 w, .rd true (rowsZ ws)]]] [] = some ⟨.bool (ps.any fun p => !inB p 0 (h - 1)), [], []⟩ := by
  refine containsFunc_ok (c := code) (i := 64) (enc := encI) rfl rfl rfl 3 true ps (fun st => by simp) (fun k => ?_) k
  exact indexFunc_ok (c := code) (sz := 1) (ag := false) (enc := encI) (arg := fun s => .int .i64 s) rfl rfl 2 true ps hn rfl (fun _ => rfl) (fun _ => rfl) (fun st x => by simp) (fun h => by simp) (fun k x _ => outRow k h w ws x hh) k
set_option maxHeartbeats 8000000 in
theorem rowsOf (k : Nat) (h w : Nat) (an : List Nat) (ps : List Nat) (hh : h ≤ 8) (hw : w ≤ 8) (la : an.length = h * w) (hp : ∀ p ∈ ps, p < h) (hn : ps.length ≤ 8) :
    call code (k + 2) 44 [.agg [.int .i64 h, .int .i64 w, .rd true (rowsZ (castL an))], .rd true (rowsZ (castL ps))] [] = some ⟨.agg [.int .i64 ps.length, .int .i64 w, .sl 0 0 0 [] 0 (rwsAt an w ps).length], [⟨0, 1, false, true, rowsZ (castL (rwsAt an w ps))⟩], []⟩ := by
  refine call_run rfl fn44 rfl ?_
  have hpl : (rowsZ (castL ps)).length = ps.length := by rw [rowsZ_len, castL_len]
  have hnil : rowsZ (castL (rwsAt an w (ps.take 0))) = [] := by simp [rwsAt, castL, rowsZ]
  simp [F44, hpl]
  refine RunC_loop (fun i : Nat => ⟨tm 28 [(2, .ptr 0 0 0 [] 0 0), (4, .ptr 0 256 0 [] 0 0), (5, .ptr 0 66816 0 [] 0 0), (13, .rd true (rowsZ (castL ps))), (14, .int .i64 ps.length), (15, .int .i64 i)],
      [(0, some ⟨0, 3, true, false, [[.int .i64 h, .int .i64 w, .rd true (rowsZ (castL an))]]⟩), (256, some ⟨0, 3, true, false, [[.int .i64 0, .int .i64 0, .sl 0 259 0 [] 0 0]]⟩), (259, some ⟨0, 1, false, true, []⟩), (66816, some ⟨0, 3, true, false, [[.int .i64 ps.length, .int .i64 w, .sl 0 67075 0 [] 0 (rwsAt an w (ps.take i)).length]]⟩), (66819, some ⟨0, 1, false, true, []⟩), (67075, some ⟨0, 1, false, true, rowsZ (castL (rwsAt an w (ps.take i)))⟩)], []⟩)
    (fun i => i ≤ ps.length) (fun i => ps.length - i) 0 (Nat.zero_le _) (by simp; omega) (by simp [tm, rwsAt, castL, rowsZ]) fun i hi _ => ?_
  by_cases hlt : i < ps.length
  · have hs := idx_succ' hlt (by omega)
    have hpi : ps[i] < h := hp _ (List.getElem_mem hlt)
    have hg : ∀ h, (rowsZ (castL ps))[i]'h = [.int .i64 ((ps[i] : Nat) : Int)] := fun h => by simp [rowsZ, castL]
    have r1 : (ps[i] + 1) * w ≤ h * w := Nat.mul_le_mul_right _ hpi
    have r2 : h * w ≤ 8 * 8 := Nat.mul_le_mul hh hw
    have hrow := fun k l => rowRd k l (h : Int) w ps[i] an (by omega) (by rw [la]; exact r1) (by rw [la]; omega) (by omega)
    have hnx := rwsAt_next (an := an) (w := w) hlt
    have hcl : (prt an (ps[i] * w) ((ps[i] + 1) * w)).length = w := by rw [prt_len (by rw [la]; exact r1), Nat.add_mul]; omega
    have hl0 := rwsAt_len (ps := ps.take i) la (fun p hq => hp p (List.mem_of_mem_take hq))
    have hb : (ps.take i).length * w ≤ 8 * 8 := Nat.mul_le_mul (by simp; omega) hw
    have happ : rowsZ (castL (rwsAt an w (ps.take i))) ++ rowsZ (castL (prt an (ps[i] * w) ((ps[i] + 1) * w))) = rowsZ (castL (rwsAt an w (ps.take (i + 1)))) := by rw [hnx]; simp [rowsZ, castL]
    have hnl : (rwsAt an w (ps.take (i + 1))).length = (rwsAt an w (ps.take i)).length + w := by rw [hnx, List.length_append, hcl]
    have hrl1 : (rowsZ (castL (rwsAt an w (ps.take i)))).length = (rwsAt an w (ps.take i)).length := by rw [rowsZ_len, castL_len]
    have hrl2 : (rowsZ (castL (prt an (ps[i] * w) ((ps[i] + 1) * w)))).length = w := by rw [rowsZ_len, castL_len, hcl]
    have hall : ∀ x ∈ rowsZ (castL (prt an (ps[i] * w) ((ps[i] + 1) * w))), x.length = 1 := by
      intro x hx
      simp only [rowsZ, List.mem_map] at hx
      obtain ⟨a, _, rfl⟩ := hx
      rfl
    generalize rowsZ (castL (prt an (ps[i] * w) ((ps[i] + 1) * w))) = C at *
    generalize ps[i] = p at *
    generalize hR' : rowsZ (castL (rwsAt an w (ps.take (i + 1)))) = R' at *
    generalize hL' : (rwsAt an w (ps.take (i + 1))).length = L' at *
    generalize rowsZ (castL (rwsAt an w (ps.take i))) = R at *
    generalize (rwsAt an w (ps.take i)).length = L at *
    generalize rowsZ (castL an) = RA at *
    simp [tm, hlt, hs, hpl, hg, rcall40, hrow, source, evalW, hrl1, hrl2, happ]
    exact ⟨hall, ⟨by omega, by omega⟩, i + 1, by omega, by omega, by simp, by rw [hL', hnl], by rw [hR']⟩
  · have : i = ps.length := by omega
    subst this
    simp [tm]
theorem matRows (k : Nat) (h w : Nat) (an : List Nat) (ps : List Nat) (la : an.length = h * w) (hb : matB h w (castL an) = true) (hp : ∀ p ∈ ps, p < h) (hn : 1 ≤ ps.length ∧ ps.length ≤ 8) :
    call code (k + 8) 20 [.agg [.int .i64 h, .int .i64 w, .rd true (rowsZ (castL an))], .rd true (rowsZ (castL ps))] [] =
      some ⟨.tup [.agg [.int .i64 ps.length, .int .i64 w, .sl 0 0 0 [] 0 (rwsAt an w ps).length], .int .i64 0], [⟨0, 1, false, true, rowsZ (castL (rwsAt an w ps))⟩], []⟩ := by
  refine call_run rfl fn20 rfl ?_
  obtain ⟨h1, h2, _, _⟩ := matB_in hb
  have h1' := h1
  have h2' := h2
  simp [inB] at h1' h2'
  have h64 : h * w ≤ 8 * 8 := Nat.mul_le_mul (by omega) (by omega)
  have o1 := fun k => matrixOk k h w (castL an) (by rw [castL_len]; omega)
  have a1 := fun k => anyOut k h w (castL an) (castL ps) h1 (by rw [castL_len]; omega)
  have ha : ((castL ps).any fun p => !inB p 0 ((h : Int) - 1)) = false := by
    rw [List.any_eq_false]
    intro x hx
    simp only [castL, List.mem_map] at hx
    obtain ⟨y, hy, rfl⟩ := hx
    have := hp y hy
    simp [inB]; omega
  rw [ha] at a1
  have r1 := fun k => rowsOf k h w an ps (by omega) (by omega) la hp hn.2
  have hpl : (rowsZ (castL ps)).length = ps.length := by rw [rowsZ_len, castL_len]
  have hi : inB (ps.length : Int) 1 8 = true := by simp [inB]; omega
  rw [hb] at o1
  simp [F20, rcall39, o1, hpl, rcall30, between, hi, rcall42, a1, rcall44, r1]
end Go.Ae.M2
