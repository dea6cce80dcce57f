/- A matrix drawn out of bytes. -/
import Derived.Test.YtppcbpmnfahnkaaM2MB
namespace Go.Ae.M2
set_option linter.unusedSimpArgs false
set_option linter.unusedVariables false
theorem among (l : List UInt8) (p : Nat) (sd : Int) (vs : List Int) (hp : p ≤ 1000000) (hv : vs.length = 4) (k lv : Nat) (h0 : Heap) (E : List Heap) (S T : Nat) (hlv : lv < E.length) (hg : (hat E lv).get S = some (some (srcB l p sd))) (ht : h0.get T = some (some ⟨0, 1, false, true, rowsZ vs⟩)) :
    call code (k + 3) 72 [.ptr (lv + 2) S 0 [] 0 0, .sl 1 T 0 [] 0 4] (h0 :: E) = some ⟨.int .i64 (vs.getD (nxV l p sd % 4) 0), [], h0 :: E.modify lv fun h => h.set S (some (srcB l (p + 1) (nxS l p sd)))⟩ := by
  refine call_run rfl fn72 rfl ?_
  have hx := fun k l0 => pick l p 4 sd hp (by omega) k (lv + 2) (l0 :: h0 :: E) S (by simp; omega) (by simpa using hg)
  have c4 : ((4 : Nat) : Int) = 4 := rfl
  rw [c4] at hx
  have hr : nxV l p sd % 4 < 4 := Nat.mod_lt _ (by omega)
  generalize nxV l p sd % 4 = r at *
  have hrl := rowsZ_len vs
  rw [hv] at hrl
  have hgv : ∀ h, (rowsZ vs)[r]'h = [.int .i64 (vs.getD r 0)] := fun h => by
    have h' : r < vs.length := by omega
    rw [rowsZ_at h' h, List.getD_eq_getElem?_getD, List.getElem?_eq_getElem h']; rfl
  simp [F72, blk_succ, heap_succ, ht, hrl, rcall52, hx, hr, hgv]
  omega
theorem hp_any {l : Heap} {S : Nat} {b : Nat → Blk} {i : Nat} {X : Option Blk} : (hp l S b i).set S X = l.set S X := by
  unfold hp
  split
  · rfl
  · rw [set_set_same]
theorem hp_succ {l : Heap} {S : Nat} {b : Nat → Blk} {i : Nat} (h : 0 < i) : hp l S b i = l.set S (some (b i)) := by
  unfold hp; rw [if_neg (by omega)]
/-- The cells drawn, the seed after them. -/
def mxN (l : List UInt8) (p : Nat) (sd : Int) : Nat → List Nat × Int
  | 0 => ([], sd)
  | i + 1 =>
    let s0 := (mxN l p sd i).2
    let s1 := nxS l (p + 3 * i) s0
    let s2 := nxS l (p + 3 * i + 1) s1
    ((mxN l p sd i).1 ++ [[0, 1, nxV l (p + 3 * i) s0, nxV l (p + 3 * i + 1) s1].getD (nxV l (p + 3 * i + 2) s2 % 4) 0], nxS l (p + 3 * i + 2) s2)
theorem mxN_len (l : List UInt8) (p : Nat) (sd : Int) : ∀ i, (mxN l p sd i).1.length = i
  | 0 => rfl
  | i + 1 => by simp [mxN, mxN_len l p sd i]
theorem mxN_lt (l : List UInt8) (p : Nat) (sd : Int) : ∀ i, ∀ x ∈ (mxN l p sd i).1, x < 256
  | 0, x, hx => by simp [mxN] at hx
  | i + 1, x, hx => by
    simp only [mxN, List.mem_append, List.mem_singleton] at hx
    rcases hx with hx | rfl
    · exact mxN_lt l p sd i x hx
    · refine getD_lt (fun y hy => ?_) _
      simp only [List.mem_cons, List.not_mem_nil, or_false] at hy
      rcases hy with rfl | rfl | rfl | rfl
      · decide
      · decide
      · exact nxV_lt _ _ _
      · exact nxV_lt _ _ _
set_option maxHeartbeats 8000000 in
theorem l03Matrix (l : List UInt8) (p n : Nat) (sd : Int) (hpp : p ≤ 1000) (hn : 1 ≤ n ∧ n ≤ 8) (k lv : Nat) (E : List Heap) (S : Nat) (hlv : lv < E.length) (hg : (hat E lv).get S = some (some (srcB l p sd))) :
    call code (k + 4) 53 [.ptr (lv + 1) S 0 [] 0 0, .int .i64 n, .int .i64 n] E = some ⟨.agg [.int .i64 n, .int .i64 n, .sl 0 0 0 [] 0 (n * n)], [⟨0, 1, false, true, rowsZ (castL (mxN l p sd (n * n)).1)⟩], E.modify lv fun h => h.set S (some (srcB l (p + 3 * (n * n)) (mxN l p sd (n * n)).2))⟩ := by
  refine call_run rfl fn53 rfl ?_
  have h64 : n * n ≤ 8 * 8 := Nat.mul_le_mul hn.2 hn.2
  have e1 : IntKind.wrap .i64 ((n : Int) * (n : Int)) = ((n * n : Nat) : Int) := by
    rw [show (n : Int) * (n : Int) = ((n * n : Nat) : Int) by simp, wrap64 ⟨by omega, by omega⟩]
  have hm1 : 1 ≤ n * n := Nat.mul_le_mul hn.1 hn.1
  generalize n * n = m at *
  simp [F53]
  refine RunC_loop (fun i : Nat => ⟨tm 32 [(0, .ptr (lv + 1) S 0 [] 0 0), (1, .int .i64 n), (2, .int .i64 n), (6, .ptr 0 0 0 [] 0 0), (7, .ptr 0 66304 0 [] 0 0), (8, .int .i64 i)],
      [(0, some ⟨0, 3, true, false, [[.int .i64 0, .int .i64 0, .sl 0 3 0 [] 0 0]]⟩), (3, some ⟨0, 1, false, true, []⟩), (66304, some ⟨0, 3, true, false, [[.int .i64 n, .int .i64 n, .sl 0 66563 0 [] 0 i]]⟩), (66307, some ⟨0, 1, false, true, []⟩), (66563, some ⟨0, 1, false, true, rowsZ (castL (mxN l p sd i).1)⟩)], E.modify lv fun h => hp h S (fun i => srcB l (p + 3 * i) (mxN l p sd i).2) i⟩)
    (fun i => i ≤ m) (fun i => m - i) 0 (Nat.zero_le _) (by simp; omega) (by simp [tm, mxN, castL, rowsZ, hp_zero, modify_id']) fun i hi _ => ?_
  have hml := mxN_len l p sd i
  by_cases hlt : i < m
  · have hE : ∀ X : Blk, lv < (E.modify lv fun h => h.set S (some X)).length := fun X => by simpa using hlv
    have hget : ∀ X : Blk, (hat (E.modify lv fun h => h.set S (some X)) lv).get S = some (some X) := fun X => by rw [hat_modify hlv, get_set, if_pos rfl]
    have hs := idx_succ' hlt (by omega)
    have hnext : mxN l p sd (i + 1) = ((mxN l p sd i).1 ++ [[0, 1, nxV l (p + 3 * i) (mxN l p sd i).2, nxV l (p + 3 * i + 1) (nxS l (p + 3 * i) (mxN l p sd i).2)].getD (nxV l (p + 3 * i + 2) (nxS l (p + 3 * i + 1) (nxS l (p + 3 * i) (mxN l p sd i).2)) % 4) 0], nxS l (p + 3 * i + 2) (nxS l (p + 3 * i + 1) (nxS l (p + 3 * i) (mxN l p sd i).2))) := rfl
    have hget0 : (hat (E.modify lv fun h => hp h S (fun i => srcB l (p + 3 * i) (mxN l p sd i).2) i) lv).get S = some (some (srcB l (p + 3 * i) (mxN l p sd i).2)) := by
      rw [hat_modify hlv]; exact hp_get (b := fun i => srcB l (p + 3 * i) (mxN l p sd i).2) (by simpa [mxN] using hg) i
    have hlenX : lv < (E.modify lv fun h => hp h S (fun i => srcB l (p + 3 * i) (mxN l p sd i).2) i).length := by simpa using hlv
    have n1 := fun k l0 => next l (p + 3 * i) (mxN l p sd i).2 (by omega) k (lv + 1) (l0 :: E.modify lv fun h => hp h S (fun i => srcB l (p + 3 * i) (mxN l p sd i).2) i) S (by simpa using hlenX) (by simpa using hget0)
    have hEn : ∀ X : Blk, ((E.modify lv fun h => hp h S (fun i => srcB l (p + 3 * i) (mxN l p sd i).2) i).modify lv fun h => h.set S (some X)) = E.modify lv fun h => h.set S (some X) := fun X => by
      rw [modify_modify']; simp only [hp_any]
    generalize hE0 : (E.modify lv fun h => hp h S (fun i => srcB l (p + 3 * i) (mxN l p sd i).2) i) = E0 at *
    have n2 := fun k l0 => next l (p + 3 * i + 1) (nxS l (p + 3 * i) (mxN l p sd i).2) (by omega) k (lv + 1) (l0 :: E.modify lv fun h => h.set S (some (srcB l (p + 3 * i + 1) (nxS l (p + 3 * i) (mxN l p sd i).2)))) S (by simp; exact hlv) (by rw [hat_cons]; exact hget _)
    have n3 := fun k h0 T vs hv ht => among l (p + 3 * i + 2) (nxS l (p + 3 * i + 1) (nxS l (p + 3 * i) (mxN l p sd i).2)) vs (by omega) hv k lv h0 (E.modify lv fun h => h.set S (some (srcB l (p + 3 * i + 2) (nxS l (p + 3 * i + 1) (nxS l (p + 3 * i) (mxN l p sd i).2))))) S T (hE _) (hget _) ht
    have hrl := rowsZ_len (castL (mxN l p sd i).1)
    rw [castL_len, hml] at hrl
    generalize hM' : mxN l p sd (i + 1) = M' at *
    generalize mxN l p sd i = M at *
    generalize nxV l (p + 3 * i) M.2 = v1 at *
    generalize nxS l (p + 3 * i) M.2 = s1 at *
    generalize nxV l (p + 3 * i + 1) s1 = v2 at *
    generalize nxS l (p + 3 * i + 1) s1 = s2 at *
    have n3' := fun k h0 T ht => n3 k h0 T [0, 1, (v1 : Int), (v2 : Int)] rfl ht
    have hr : nxV l (p + 3 * i + 2) s2 % 4 < 4 := Nat.mod_lt _ (by omega)
    generalize nxV l (p + 3 * i + 2) s2 % 4 = r at *
    have hcast : [0, 1, (v1 : Int), (v2 : Int)].getD r 0 = (([0, 1, v1, v2].getD r 0 : Nat) : Int) := by
      rcases r with _ | _ | _ | _ | r <;> first | rfl | omega
    rw [hcast] at n3'
    have happ : rowsZ (castL M.1) ++ [[.int .i64 (([0, 1, v1, v2].getD r 0 : Nat) : Int)]] = rowsZ (castL M'.1) := by rw [hnext]; simp [rowsZ, castL]
    have hsd : nxS l (p + 3 * i + 2) s2 = M'.2 := by rw [hnext]
    rw [hsd] at n3'
    have hp1 : p + 3 * i + 1 + 1 = p + 3 * i + 2 := rfl
    have hrz : rowsZ [0, 1, (v1 : Int), (v2 : Int)] = [[.int .i64 0], [.int .i64 1], [.int .i64 v1], [.int .i64 v2]] := rfl
    rw [hrz] at n3'
    generalize [0, 1, v1, v2].getD r 0 = x at *
    clear n3 hcast hnext
    generalize hR' : rowsZ (castL M'.1) = R' at *
    generalize rowsZ (castL M.1) = R at *
    have h31 : p + 3 * (i + 1) = p + 3 * i + 2 + 1 := by omega
    simp [tm, e1, hlt, hs, rcall71, n1, hEn, n2, rcall72, n3', modify_modify', set_set_same, source, evalW, hrl, happ]
    exact ⟨⟨by omega, by omega⟩, i + 1, by omega, by omega, by simp, ⟨rfl, by rw [hM', hR']⟩, by simp only [hp_succ (Nat.succ_pos i), hM', h31]⟩
  · have : i = m := by omega
    subst this
    have hpi : (E.modify lv fun h => hp h S (fun i => srcB l (p + 3 * i) (mxN l p sd i).2) i) = E.modify lv fun h => h.set S (some (srcB l (p + 3 * i) (mxN l p sd i).2)) := by simp only [hp_succ (show 0 < i from hm1)]
    have hrl := rowsZ_len (castL (mxN l p sd i).1)
    rw [castL_len, hml] at hrl
    generalize rowsZ (castL (mxN l p sd i).1) = R at *
    simp [tm, hml, e1, hpi, hrl]
theorem a8Matrix (k : Nat) (l : List UInt8) : ∃ n an, (1 ≤ n ∧ n ≤ 5) ∧ an.length = n * n ∧ (∀ x ∈ an, x < 256) ∧ ∀ k, call code (k + 5) 27 [.rd true (rws encU l)] [] = some ⟨.agg [.int .i64 (n : Nat), .int .i64 (n : Nat), .sl 0 0 0 [] 0 (n * n)], [⟨0, 1, false, true, rowsZ (castL an)⟩], []⟩ := by
  have h1 := fun k => l00From k l
  have h2 := fun k lv E S hlv hg => pick l 0 5 0 (by omega) (by omega) k lv E S hlv hg
  have hr : nxV l 0 0 % 5 < 5 := Nat.mod_lt _ (by omega)
  have e1 : IntKind.wrap .i64 (1 + ((nxV l 0 0 % 5 : Nat) : Int)) = ((1 + nxV l 0 0 % 5 : Nat) : Int) := by rw [wrap64 ⟨by omega, by omega⟩]; omega
  have h3 := fun k lv E S hlv hg => l03Matrix l 1 (1 + nxV l 0 0 % 5) (nxS l 0 0) (by omega) (by omega) k lv E S hlv hg
  refine ⟨1 + nxV l 0 0 % 5, (mxN l 1 (nxS l 0 0) ((1 + nxV l 0 0 % 5) * (1 + nxV l 0 0 % 5))).1, by omega, mxN_len _ _ _ _, mxN_lt _ _ _ _, fun k => ?_⟩
  refine call_run rfl fn27 rfl ?_
  generalize nxV l 0 0 % 5 = r at *
  generalize nxS l 0 0 = s1 at *
  generalize 1 + r = n at *
  have hrl := rowsZ_len (castL (mxN l 1 s1 (n * n)).1)
  rw [castL_len, mxN_len] at hrl
  generalize (mxN l 1 s1 (n * n)).1 = C at *
  generalize (mxN l 1 s1 (n * n)).2 = s2 at *
  generalize n * n = nn at *
  generalize 1 + 3 * nn = q at *
  generalize rowsZ (castL C) = R at *
  have c5 : ((5 : Nat) : Int) = 5 := rfl
  have c0 : ((0 : Nat) : Int) = 0 := rfl
  have c1 : ((1 : Nat) : Int) = 1 := rfl
  simp only [Nat.zero_add, srcB, c0, c1, c5] at h1 h2 h3
  simp [F27, rcall51, h1, rcall52, h2, e1, rcall53, h3, hrl]
end Go.Ae.M2
namespace Go.Ae.M2
set_option linter.unusedSimpArgs false
set_option linter.unusedVariables false
theorem specOk (k n : Nat) (an : List Nat) (hn : 1 ≤ n ∧ n ≤ 8) (hl : an.length = n * n) (ha : ∀ x ∈ an, x < 256) (hb : matB n n (castL an) = true) {p : Mx × Mx} (hr : runS n (unfl n an, idM) n = some p) :
    call code (k + 8) 28 [.agg [.int .i64 n, .int .i64 n, .rd true (rowsZ (castL an))]] [] = some ⟨.tup [.agg [.int .i64 n, .int .i64 n, .sl 0 0 0 [] 0 (n * n)], .int .i64 0], [⟨0, 1, false, true, rowsZ (castL (fl n p.2))⟩], []⟩ := by
  have h64 : n * n ≤ 8 * 8 := Nat.mul_le_mul hn.2 hn.2
  have o1 := fun k => l03OK k n n (castL an) (by rw [castL_len, hl]; omega)
  have hM := unfl_bnd (w := n) ha
  have hrr : rowsZ (castL an) = rowsM n (unfl n an) := by rw [rowsM, fl_unfl hl]
  have i1 := fun k => l03Inv k n (unfl n an) hn hM
  rw [hr] at i1
  rw [hb] at o1
  rw [hrr] at o1 ⊢
  simp only [resInv, mb] at i1
  refine call_run rfl fn28 rfl ?_
  rw [show rowsZ (castL (fl n p.2)) = rowsM n p.2 from rfl]
  generalize n * n = nn at *
  simp [F28, rcall36, o1, rcall54, i1]
theorem noInv (n : Nat) (an : List Nat) (hn : 1 ≤ n ∧ n ≤ 8) (hl : an.length = n * n) (ha : ∀ x ∈ an, x < 256) (hb : matB n n (castL an) = true) (hr : runS n (unfl n an, idM) n = none) :
    (∀ k, call code (k + 8) 21 [.agg [.int .i64 n, .int .i64 n, .rd true (rowsZ (castL an))]] [] = some (resM 0 0 [] 3)) ∧ ∀ k, call code (k + 8) 28 [.agg [.int .i64 n, .int .i64 n, .rd true (rowsZ (castL an))]] [] = some (resM 0 0 [] 3) := by
  have h64 : n * n ≤ 8 * 8 := Nat.mul_le_mul hn.2 hn.2
  have o1 := fun k => matrixOk k n n (castL an) (by rw [castL_len, hl]; omega)
  have o2 := fun k => l03OK k n n (castL an) (by rw [castL_len, hl]; omega)
  have hM := unfl_bnd (w := n) ha
  have hrr : rowsZ (castL an) = rowsM n (unfl n an) := by rw [rowsM, fl_unfl hl]
  have i1 := fun k => inverted k n (unfl n an) hn hM
  have i2 := fun k => l03Inv k n (unfl n an) hn hM
  rw [both_inv hM, hr] at i1
  rw [hr] at i2
  rw [hb] at o1 o2
  rw [hrr] at o1 o2 ⊢
  simp only [resInv] at i1 i2
  have hnil : rowsZ [] = [] := rfl
  refine ⟨fun k => ?_, fun k => ?_⟩
  · refine call_run rfl fn21 rfl ?_
    simp [F21, rcall39, o1, rcall45, i1, resM, hnil]
  · refine call_run rfl fn28 rfl ?_
    simp [F28, rcall36, o2, rcall54, i2, resM, hnil]
/-- The product of the inverse and its matrix. -/
theorem prod_unit2 {w : Nat} {Y : Mx} {p : Mx × Mx} (hY : bnd w Y) (h : Inv w w (Y, idM) p) {i j : Nat} (hi : i < w) (hj : j < w) : dot (p.2 i) (fun q => Y q j) w = idM i j := by
  have hs : Sol w (Y, idM) (idM j) (fun q => Y q j) := by
    intro a ha
    have e1 : dot (Y a) (idM j) w = Y a j := by
      have hc : ∀ n, n ≤ w → dot (Y a) (idM j) n = dot (idM j) (Y a) n := by
        intro n
        induction n with
        | zero => intro _; rfl
        | succ n ih =>
          intro hn
          rw [dot, dot, ih (by omega), gm_comm _ (hY a n ha (by omega)) _ (idM_bnd w j n hj (by omega))]
      rw [hc w (Nat.le_refl _), dot_unit (i := j) w (fun _ _ => rfl) (fun b hb => hY a b ha hb), if_pos hj]
    show dot (Y a) (idM j) w = dot (idM a) (fun q => Y q j) w
    rw [e1, dot_unit (i := a) w (fun _ _ => rfl) (fun b hb => hY b j hb hj), if_pos ha]
  rw [sol_full h (fun a ha => idM_bnd w j a hj ha)] at hs
  have := hs i hi
  rw [← this]
  simp only [idM]
  by_cases e : i = j
  · subst e; rfl
  · rw [if_neg e, if_neg (fun h => e h.symm)]
theorem mz_unit2 {w : Nat} {an : List Nat} {p : Mx × Mx} (ha : ∀ x ∈ an, x < 256) (h : Inv w w (unfl w an, idM) p) : mz (fl w p.2) an w w w 0 = castL (fl w idM) := by
  unfold mz
  simp only [List.range_zero, List.map_nil, List.append_nil]
  rw [flat_range w (fun a b => ((ddt (fl w p.2) an w w a b w : Nat) : Int)) w]
  unfold castL fl
  rw [List.map_map]
  apply List.map_congr_left
  intro x hx
  have hx' := List.mem_range.1 hx
  have hw : 0 < w := by
    rcases Nat.eq_zero_or_pos w with rfl | h
    · simp at hx'
    · exact h
  have h1 : x / w < w := Nat.div_lt_of_lt_mul hx'
  have h2 : x % w < w := Nat.mod_lt _ hw
  have := ddt_dot (an := fl w p.2) (bn := an) (w := w) (a := x / w) (b := x % w) w
  have e : dot (unfl w (fl w p.2) (x / w)) (fun q => unfl w an q (x % w)) w = dot (p.2 (x / w)) (fun q => unfl w an q (x % w)) w := dot_congr w (fun q hq => unfl_fl h1 hq) (fun _ _ => rfl)
  rw [e, prod_unit2 (unfl_bnd ha) h h1 h2] at this
  simp only [Function.comp]
  exact congrArg _ this
set_option maxRecDepth 100000 in
set_option maxHeartbeats 64000000 in
theorem law7 (n : Nat) (l : List UInt8) : call code (n + 10) 7 [.rd true (rws encU l)] [] = some ⟨.bool true, [], []⟩ := by
  refine call_run rfl fn7 rfl ?_
  by_cases hbig : 1048576 < l.length
  · have hb' : decide ((1048576 : Int) < (l.length : Int)) = true := by simp; omega
    simp [F7, hb']
  have hb' : decide ((1048576 : Int) < (l.length : Int)) = false := by simp; omega
  obtain ⟨k, an, hk, hl, ha, hd⟩ := a8Matrix 0 l
  have h64 : k * k ≤ 8 * 8 := Nat.mul_le_mul (by omega) (by omega)
  have mb1 : matB k k (castL an) = true := matB_ok ⟨by omega, by omega⟩ ⟨by omega, by omega⟩ hl ha
  have mu := fun n => matUnit n k ⟨by omega, by omega⟩
  have huz : castL (fl k idM) = uz k k := (uz_id k (by omega)).symm
  rw [← huz] at mu
  have hul : (castL (fl k idM)).length = k * k := by rw [castL_len, fl_len]
  have hul2 : (rowsZ (castL (fl k idM))).length = k * k := by rw [rowsZ_len, hul]
  have hal2 : (rowsZ (castL an)).length = k * k := by rw [rowsZ_len, castL_len, hl]
  have tA : (rowsZ (castL an)).take (k * k) = rowsZ (castL an) := List.take_of_length_le (by omega)
  have tU : (rowsZ (castL (fl k idM))).take (k * k) = rowsZ (castL (fl k idM)) := List.take_of_length_le (by omega)
  cases hr : runS k (unfl k an, idM) k with
  | none =>
    obtain ⟨i1, i2⟩ := noInv k an ⟨by omega, by omega⟩ hl ha mb1 hr
    have hnil : rowsZ [] = [] := rfl
    simp only [resM, hnil] at i1 i2
    generalize rowsZ (castL (fl k idM)) = U at *
    generalize rowsZ (castL an) = A at *
    generalize k * k = kk at *
    simp (maxSteps := 20000000) [F7, hb', rcall27, hd, tA, hal2, rcall21, i1, rcall28, i2, rcall22, mu]
  | some p =>
    have i1 := fun j => invOk j k an ⟨by omega, by omega⟩ hl ha mb1 hr
    have i2 := fun j => specOk j k an ⟨by omega, by omega⟩ hl ha mb1 hr
    have hinv : Inv k k (unfl k an, idM) p := by
      have g := (good_all (p0 := (unfl k an, idM)) (unfl_bnd ha) (idM_bnd k)).2
      rw [hr] at g; exact g
    have zb : ∀ x ∈ fl k p.2, x < 256 := fl_lt hinv.b2
    have mb3 : matB k k (castL (fl k p.2)) = true := matB_ok ⟨by omega, by omega⟩ ⟨by omega, by omega⟩ (fl_len _ _) zb
    have m1 := fun n => implMulOk n k k k an (fl k p.2) (by omega) (by omega) (by omega) ha zb hl (fl_len _ _) mb1 mb3 (by omega) (by omega)
    have m2 := fun n => implMulOk n k k k (fl k p.2) an (by omega) (by omega) (by omega) zb ha (fl_len _ _) hl mb3 mb1 (by omega) (by omega)
    rw [mz_unit hinv, hul] at m1
    rw [mz_unit2 ha hinv, hul] at m2
    have mb4 : matB k k (castL (fl k idM)) = true := matB_ok ⟨by omega, by omega⟩ ⟨by omega, by omega⟩ (fl_len _ _) (fl_lt (idM_bnd k))
    have sm := fun n => sameMatrix n k k (castL (fl k idM)) (by rw [hul]; omega) mb4
    have hzl2 : (rowsZ (castL (fl k p.2))).length = k * k := by rw [rowsZ_len, castL_len, fl_len]
    have tZ : (rowsZ (castL (fl k p.2))).take (k * k) = rowsZ (castL (fl k p.2)) := List.take_of_length_le (by omega)
    clear hinv hr huz zb mb1 mb3 mb4 hul hl
    generalize rowsZ (castL (fl k idM)) = U at *
    generalize rowsZ (castL an) = A at *
    generalize rowsZ (castL (fl k p.2)) = Z at *
    generalize k * k = kk at *
    simp (maxSteps := 20000000) [F7, hb', rcall27, hd, tA, tZ, tU, hal2, hzl2, hul2, rcall21, i1, rcall28, i2, rcall22, mu, rcall17, m1, m2, rcall23, sm]
theorem lawInverse (avs : List AV) (h : PFitsAll [(false, [.sl 1 [.int .u8]])] avs) : ∃ n bs e, call code n 7 avs [] = some ⟨.bool true, bs, e⟩ := by
  obtain ⟨v0, r, rfl, h0, h⟩ := h.cons_inv
  obtain rfl := h.nil_inv
  obtain ⟨ys, rfl, _, kr⟩ := h0.one_inv.sl_inv
  obtain ⟨l, rfl⟩ := fitU kr
  exact ⟨_, _, _, law7 0 l⟩
end Go.Ae.M2
