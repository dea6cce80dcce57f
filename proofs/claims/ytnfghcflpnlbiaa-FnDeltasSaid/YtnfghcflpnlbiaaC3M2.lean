/- A matrix times a column of texts, twice told. -/
import Derived.Test.YtnfghcflpnlbiaaC3M1
import Derived.Test.YtnfghcflpnlbiaaAeL6
import Derived.Test.YtnfghcflpnlbiaaC3Code
namespace Go.Ae.C3
set_option linter.unusedSimpArgs false
set_option linter.unusedVariables false
theorem repeatL_zero : ∀ n, Lib.repeatL [0] n = List.replicate n 0
  | 0 => rfl
  | n + 1 => by rw [Lib.repeatL, repeatL_zero n]; rfl
theorem zeros (k n : Nat) (hn : n ≤ 1048576) : call code (k + 1) 135 [.str ⟨#[0]⟩, .int .i64 n] [] = some ⟨.str (B (List.replicate n 0)), [], []⟩ := by
  refine nat135 k _ _ _ _ ?_
  have hsz : (ByteArray.mk #[(0 : UInt8)]).size = 1 := rfl
  simp only [natRepeat]
  rw [if_pos ⟨by omega, by omega, by rw [hsz]; simp; omega⟩]
  simp only [repB, Int.toNat_natCast]
  rw [repeatL_zero]; rfl
def acc (an : List Nat) (w : Nat) (ls : List (List UInt8)) (n i : Nat) : Nat → List UInt8
  | 0 => List.replicate n 0
  | k + 1 => sm (acc an w ls n i k) (scl (an.getD (i * w + k) 0) (ls.getD k []))
def pcs (an : List Nat) (h w : Nat) (ls : List (List UInt8)) (n : Nat) : List (List UInt8) := (List.range h).map fun i => acc an w ls n i w
theorem acc_len {an : List Nat} {w : Nat} {ls : List (List UInt8)} {n i : Nat} (hl : ∀ l ∈ ls, l.length = n) : ∀ k, k ≤ ls.length → (acc an w ls n i k).length = n
  | 0, _ => by simp [acc]
  | k + 1, h => by
    have h1 := acc_len (an := an) (w := w) (i := i) hl k (by omega)
    have h2 : (ls.getD k []).length = n := by
      rw [List.getD_eq_getElem?_getD, List.getElem?_eq_getElem (by omega)]; exact hl _ (List.getElem_mem _)
    rw [acc, sm_len (by rw [scl_len, h1, h2]), h1]
theorem pcs_len (an : List Nat) (h w : Nat) (ls : List (List UInt8)) (n : Nat) : (pcs an h w ls n).length = h := by simp [pcs]
def rowsS (ls : List (List UInt8)) : List (List AV) := rws encT (ls.map B)
@[simp] theorem rowsS_len (ls : List (List UInt8)) : (rowsS ls).length = ls.length := by simp [rowsS]
theorem rowsS_at {ls : List (List UInt8)} {i : Nat} (h : i < ls.length) (h' : i < (rowsS ls).length) : (rowsS ls)[i]'h' = [.str (B (ls.getD i []))] := by
  simp [rowsS, encT, List.getD_eq_getElem?_getD, h]
theorem rowsS_app (ls : List (List UInt8)) (l : List UInt8) : rowsS ls ++ [[.str (B l)]] = rowsS (ls ++ [l]) := by simp [rowsS, rws, encT]
theorem pcs_app (an : List Nat) (i w : Nat) (ls : List (List UInt8)) (n : Nat) : pcs an i w ls n ++ [acc an w ls n i w] = pcs an (i + 1) w ls n := by simp [pcs, List.range_succ]
theorem rowsS_get {ls : List (List UInt8)} {i : Nat} (h : i < ls.length) (h' : i < (rowsS ls).length) : (rowsS ls)[i]'h' = [.str (B ls[i])] := by
  simp [rowsS, encT]
theorem acc_step {an : List Nat} {w : Nat} {ls : List (List UInt8)} {n i q : Nat} (h : q < ls.length) : sm (acc an w ls n i q) (scl (an.getD (i * w + q) 0) ls[q]) = acc an w ls n i (q + 1) := by
  rw [acc, List.getD_eq_getElem?_getD (l := ls), List.getElem?_eq_getElem h]; rfl
set_option maxHeartbeats 4000000 in
theorem pieces (k : Nat) (h w : Nat) (an : List Nat) (ls : List (List UInt8)) (n : Nat) (hh : h ≤ 8) (hw : 1 ≤ w ∧ w ≤ 8) (la : an.length = h * w) (ha : ∀ x ∈ an, x < 256) (lw : ls.length = w) (hl : ∀ l ∈ ls, l.length = n) (hn : n ≤ 1048576) :
    call code (k + 4) 131 [.agg [.int .i64 h, .int .i64 w, .rd true (rowsZ (castL an))], .rd true (rowsS ls)] [] = some ⟨.sl 0 0 0 [] 0 h, [⟨0, 1, false, true, rowsS (pcs an h w ls n)⟩], []⟩ := by
  refine call_run rfl fn131 rfl ?_
  have hw64 : h * w ≤ 64 := Nat.mul_le_mul hh hw.2
  simp [F131]
  refine RunC_loop (fun i : Nat => ⟨tm 44 [(1, .rd true (rowsS ls)), (2, .ptr 0 0 0 [] 0 0), (5, .sl 0 65536 0 [] 0 i), (11, .int .i64 h), (12, .int .i64 i)], [(0, some ⟨0, 3, true, false, [[.int .i64 h, .int .i64 w, .rd true (rowsZ (castL an))]]⟩), (256, some ⟨0, 1, false, true, []⟩), (65536, some ⟨0, 1, false, true, rowsS (pcs an i w ls n)⟩)], []⟩)
    (fun i => i ≤ h) (fun i => h - i) 0 (Nat.zero_le _) (by simp; omega) (by simp [tm, pcs, rowsS]) fun i hi _ => ?_
  by_cases hlt : i < h
  · have hs := idx_succ' hlt (by omega)
    have hmul : (i + 1) * w ≤ h * w := Nat.mul_le_mul_right _ hlt
    have hrow := fun k l => rowRd k l h w i an (by omega) (by omega) (by omega) (by omega)
    have hpl : (prt an (i * w) ((i + 1) * w)).length = w := by rw [prt_len (by omega), Nat.add_mul]; omega
    have hrl : (rowsZ (castL (prt an (i * w) ((i + 1) * w)))).length = w := by rw [rowsZ_len, castL_len, hpl]
    have h0 : (0 : Nat) < ls.length := by omega
    have hg0 : ∀ h, (rowsS ls)[0]'h = [.str (B ls[0])] := fun h => rowsS_get h0 h
    have hl0 : ls[0].length = n := hl _ (List.getElem_mem _)
    have hz := fun k => zeros k n hn
    simp [tm, hlt, h0, hg0, hl0, hz, rcall135, rcall155, hrow, hrl, pcs_len]
    refine RunC_loop (fun q : Nat => ⟨tm 44 [(1, .rd true (rowsS ls)), (2, .ptr 0 0 0 [] 0 0), (5, .sl 0 65536 0 [] 0 i), (7, .str (B (acc an w ls n i q))), (11, .int .i64 h), (12, .int .i64 i), (22, .rd true (rowsZ (castL (prt an (i * w) ((i + 1) * w))))), (23, .int .i64 w), (24, .int .i64 q)],
        [(0, some ⟨0, 3, true, false, [[.int .i64 h, .int .i64 w, .rd true (rowsZ (castL an))]]⟩), (256, some ⟨0, 1, false, true, []⟩), (65536, some ⟨0, 1, false, true, rowsS (pcs an i w ls n)⟩)], []⟩)
      (fun q => q ≤ w) (fun q => w - q) 0 (Nat.zero_le _) (by simp; omega) (by simp [tm, acc]) fun q hq _ => ?_
    by_cases hlq : q < w
    · have hsq := idx_succ' hlq (by omega)
      have hq' : q < ls.length := by omega
      have hgq : ∀ h, (rowsS ls)[q]'h = [.str (B ls[q])] := fun h => rowsS_get hq' h
      have hlq2 : ls[q].length = n := hl _ (List.getElem_mem _)
      have hpg : (prt an (i * w) ((i + 1) * w)).getD q 0 = an.getD (i * w + q) 0 := prt_get (by rw [Nat.add_mul]; omega)
      have hgr : ∀ h, (rowsZ (castL (prt an (i * w) ((i + 1) * w))))[q]'h = [.int .i64 ((an.getD (i * w + q) 0 : Nat) : Int)] := fun h => by rw [← hpg]; exact rowsC_at (by rw [hpl]; exact hlq) h
      have hlt8 := getD_lt ha (i * w + q)
      have hal := acc_len (an := an) (w := w) (i := i) hl q (by omega)
      have hstep := acc_step (an := an) (w := w) (n := n) (i := i) hq'
      generalize an.getD (i * w + q) 0 = e at *
      generalize ls[q] = lq at *
      have hsc := fun k => scaled k e lq hlt8 (by omega)
      have hsm := fun k => summed k (acc an w ls n i q) (scl e lq) (by rw [scl_len, hal, hlq2]) (by omega)
      rw [hstep] at hsm
      simp [tm, hlq, hq', hsq, hgq, hgr, hrl, rcall159, hsc, rcall147, hsm]
      exact ⟨q + 1, by omega, by omega, by simp, rfl⟩
    · have : q = w := by omega
      subst this
      have hap := rowsS_app (pcs an i q ls n) (acc an q ls n i q)
      rw [pcs_app] at hap
      simp [tm, hs, evalW, source, pcs_len, hap]
      exact ⟨by omega, i + 1, by omega, by omega, by simp, rfl⟩
  · have : i = h := by omega
    subst this
    simp [tm, pcs_len]
end Go.Ae.C3
namespace Go.Ae.C3
set_option linter.unusedSimpArgs false
set_option linter.unusedVariables false
set_option maxHeartbeats 4000000 in
theorem l03Pieces (k : Nat) (h w : Nat) (an : List Nat) (ls : List (List UInt8)) (n : Nat) (hh : h ≤ 8) (hw : 1 ≤ w ∧ w ≤ 8) (la : an.length = h * w) (ha : ∀ x ∈ an, x < 256) (lw : ls.length = w) (hl : ∀ l ∈ ls, l.length = n) (hn : n ≤ 1048576) :
    call code (k + 4) 132 [.agg [.int .i64 h, .int .i64 w, .rd true (rowsZ (castL an))], .rd true (rowsS ls)] [] = some ⟨.sl 0 0 0 [] 0 h, [⟨0, 1, false, true, rowsS (pcs an h w ls n)⟩], []⟩ := by
  refine call_run rfl fn132 rfl ?_
  have hw64 : h * w ≤ 64 := Nat.mul_le_mul hh hw.2
  simp [F132]
  refine RunC_loop (fun i : Nat => ⟨tm 48 [(1, .rd true (rowsS ls)), (2, .ptr 0 0 0 [] 0 0), (5, .sl 0 65536 0 [] 0 i), (6, .int .i64 i)], [(0, some ⟨0, 3, true, false, [[.int .i64 h, .int .i64 w, .rd true (rowsZ (castL an))]]⟩), (256, some ⟨0, 1, false, true, []⟩), (65536, some ⟨0, 1, false, true, rowsS (pcs an i w ls n)⟩)], []⟩)
    (fun i => i ≤ h) (fun i => h - i) 0 (Nat.zero_le _) (by simp; omega) (by simp [tm, pcs, rowsS]) fun i hi _ => ?_
  by_cases hlt : i < h
  · have hs := idx_succ' hlt (by omega)
    have hmul : (i + 1) * w ≤ h * w := Nat.mul_le_mul_right _ hlt
    have h0 : (0 : Nat) < ls.length := by omega
    have hg0 : ∀ h, (rowsS ls)[0]'h = [.str (B ls[0])] := fun h => rowsS_get h0 h
    have hl0 : ls[0].length = n := hl _ (List.getElem_mem _)
    have hz := fun k => l02Scale k 0 ls[0] (by omega) (by omega)
    rw [scl_zero, hl0] at hz
    have hrl : (rowsZ (castL an)).length = h * w := by rw [rowsZ_len, castL_len, la]
    simp at hz
    simp [tm, hlt, h0, hg0, hl0, hz, rcall160]
    refine RunC_loop (fun q : Nat => ⟨tm 48 [(1, .rd true (rowsS ls)), (2, .ptr 0 0 0 [] 0 0), (5, .sl 0 65536 0 [] 0 i), (6, .int .i64 i), (7, .str (B (acc an w ls n i q))), (8, .int .i64 q)],
        [(0, some ⟨0, 3, true, false, [[.int .i64 h, .int .i64 w, .rd true (rowsZ (castL an))]]⟩), (256, some ⟨0, 1, false, true, []⟩), (65536, some ⟨0, 1, false, true, rowsS (pcs an i w ls n)⟩)], []⟩)
      (fun q => q ≤ w) (fun q => w - q) 0 (Nat.zero_le _) (by simp; omega) (by simp [tm, acc]) fun q hq _ => ?_
    by_cases hlq : q < w
    · have hsq := idx_succ' hlq (by omega)
      have hq' : q < ls.length := by omega
      have hgq : ∀ h, (rowsS ls)[q]'h = [.str (B ls[q])] := fun h => rowsS_get hq' h
      have hlq2 : ls[q].length = n := hl _ (List.getElem_mem _)
      have hbound : i * w + q < an.length := by rw [la]; rw [Nat.add_mul] at hmul; omega
      have hgr : ∀ h, (rowsZ (castL an))[i * w + q]'h = [.int .i64 ((an.getD (i * w + q) 0 : Nat) : Int)] := fun h => rowsC_at hbound h
      have e1 : IntKind.wrap .i64 ((i : Int) * (w : Int)) = ((i * w : Nat) : Int) := by rw [show (i : Int) * (w : Int) = ((i * w : Nat) : Int) by simp, wrap64 ⟨by omega, by omega⟩]
      have e2 : IntKind.wrap .i64 (((i * w : Nat) : Int) + (q : Int)) = ((i * w + q : Nat) : Int) := by rw [wrap64 ⟨by omega, by omega⟩]; omega
      have hlt8 := getD_lt ha (i * w + q)
      have hal := acc_len (an := an) (w := w) (i := i) hl q (by omega)
      have hstep := acc_step (an := an) (w := w) (n := n) (i := i) hq'
      rw [la] at hbound
      generalize an.getD (i * w + q) 0 = e at *
      generalize ls[q] = lq at *
      generalize hiw : i * w = iw at *
      generalize hiq : iw + q = iq at *
      generalize hhw : h * w = hwm at *
      have hsc := fun k => l02Scale k e lq hlt8 (by omega)
      have hsm := fun k => l02Sum k (acc an w ls n i q) (scl e lq) (by rw [scl_len, hal, hlq2]) (by omega)
      rw [hstep] at hsm
      simp [tm, hlq, hq', hsq, hgq, hgr, hrl, e1, e2, hbound, rcall160, hsc, rcall146, hsm]
      exact ⟨q + 1, by omega, by omega, by simp, rfl⟩
    · have : q = w := by omega
      subst this
      have hap := rowsS_app (pcs an i q ls n) (acc an q ls n i q)
      rw [pcs_app] at hap
      simp [tm, hs, evalW, source, pcs_len, hap]
      exact ⟨by omega, i + 1, by omega, by omega, by simp, rfl⟩
  · have : i = h := by omega
    subst this
    simp [tm, pcs_len]
end Go.Ae.C3
namespace Go.Ae.C3
set_option linter.unusedSimpArgs false
set_option linter.unusedVariables false
theorem B_app (l r : List UInt8) : B l ++ B r = B (l ++ r) := by
  simp only [B]
  apply ByteArray.ext
  simp [ByteArray.data_append]
theorem B_cut (l : List UInt8) (a b : Nat) : (B l).extract a b = B ((l.drop a).take (b - a)) := by
  apply ByteArray.ext
  simp only [ByteArray.data_extract, B]
  apply Array.ext'
  simp [List.take_drop]
  try (congr 1; omega)
def gN (k m : Nat) : List Nat := (gz k m 0).map Int.toNat
theorem uz_val {n i : Nat} {x : Int} (h : x ∈ uz n i) : x = 0 ∨ x = 1 := by
  simp only [uz, List.mem_map] at h
  obtain ⟨a, _, rfl⟩ := h
  split
  · exact .inr rfl
  · exact .inl rfl
theorem gz_val {k m : Nat} (hk : k + m ≤ 8) {x : Int} (h : x ∈ gz k m 0) : ∃ n : Nat, x = n ∧ n < 256 := by
  simp only [gz, List.mem_append, List.mem_flatMap, List.mem_map, List.mem_range] at h
  rcases h with (h | ⟨a, ha, b, hb, rfl⟩) | ⟨b, hb, _⟩
  · rcases uz_val h with rfl | rfl
    · exact ⟨0, rfl, by decide⟩
    · exact ⟨1, rfl, by decide⟩
  · exact ⟨_, rfl, gm_lt (by omega)⟩
  · omega
theorem castL_toNat : ∀ {l : List Int}, (∀ x ∈ l, ∃ n : Nat, x = n ∧ n < 256) → castL (l.map Int.toNat) = l
  | [], _ => rfl
  | x :: l, h => by
    obtain ⟨n, rfl, _⟩ := h x List.mem_cons_self
    have := castL_toNat (l := l) fun y hy => h y (List.mem_cons_of_mem _ hy)
    simp only [castL, List.map_map] at this
    simp [castL, this]
theorem gN_cast {k m : Nat} (hk : k + m ≤ 8) : castL (gN k m) = gz k m 0 := castL_toNat fun x hx => gz_val hk hx
theorem gN_lt {k m : Nat} (hk : k + m ≤ 8) : ∀ x ∈ gN k m, x < 256 := by
  intro x hx
  simp only [gN, List.mem_map] at hx
  obtain ⟨y, hy, rfl⟩ := hx
  obtain ⟨n, rfl, hn⟩ := gz_val hk hy
  simpa using hn
theorem gN_len {k m : Nat} : (gN k m).length = (k + m) * k := by
  rw [gN, List.length_map, gz_len, Nat.add_mul]; omega
def psz (K n : Nat) : Nat := (n + K - 1) / K
def pad (K : Nat) (l : List UInt8) : List UInt8 := l ++ List.replicate (psz K l.length * K - l.length) 0
def cutAt (n : Nat) (p : List UInt8) (i : Nat) : List UInt8 := (p.drop (i * n)).take n
def dat (K : Nat) (l : List UInt8) (i : Nat) : List (List UInt8) := (List.range i).map (cutAt (psz K l.length) (pad K l))
theorem psz_le {K n : Nat} (hK : 1 ≤ K) : n ≤ psz K n * K ∧ psz K n ≤ n := by
  unfold psz
  have h1 := Nat.div_add_mod (n + K - 1) K
  have h2 := Nat.mod_lt (n + K - 1) (show K > 0 by omega)
  rw [Nat.mul_comm] at h1
  refine ⟨by omega, ?_⟩
  by_cases hn : n = 0
  · subst hn
    rw [Nat.div_eq_of_lt (by omega)]; omega
  · apply Nat.div_le_of_le_mul
    have : n + K ≤ K * n + 1 := by
      obtain ⟨a, rfl⟩ : ∃ a, n = a + 1 := ⟨n - 1, by omega⟩
      obtain ⟨b, rfl⟩ : ∃ b, K = b + 1 := ⟨K - 1, by omega⟩
      rw [Nat.add_mul, Nat.mul_add]; omega
    omega
theorem pad_len {K : Nat} {l : List UInt8} (hK : 1 ≤ K) : (pad K l).length = psz K l.length * K := by
  have := (psz_le (n := l.length) hK).1
  simp [pad]; omega
theorem cut_len {K : Nat} {l : List UInt8} (hK : 1 ≤ K) {i : Nat} (hi : i < K) : (cutAt (psz K l.length) (pad K l) i).length = psz K l.length := by
  have h := pad_len (l := l) hK
  have h2 : (i + 1) * psz K l.length ≤ K * psz K l.length := Nat.mul_le_mul_right _ hi
  rw [Nat.add_mul, Nat.mul_comm K] at h2
  simp [cutAt, h]; omega
theorem dat_len (K : Nat) (l : List UInt8) (i : Nat) : (dat K l i).length = i := by simp [dat]
theorem dat_all {K : Nat} {l : List UInt8} (hK : 1 ≤ K) : ∀ x ∈ dat K l K, x.length = psz K l.length := by
  intro x hx
  simp only [dat, List.mem_map, List.mem_range] at hx
  obtain ⟨i, hi, rfl⟩ := hx
  exact cut_len hK hi
theorem dat_app (K : Nat) (l : List UInt8) (i : Nat) : dat K l i ++ [cutAt (psz K l.length) (pad K l) i] = dat K l (i + 1) := by simp [dat, List.range_succ]
/-- All shards. -/
def shs (K M : Nat) (l : List UInt8) : List (List UInt8) := pcs (gN K M) (K + M) K (dat K l K) (psz K l.length)
theorem encoded (k : Nat) (K M : Nat) (ls : List (List UInt8)) (n : Nat) (hK : 1 ≤ K) (hM : K + M ≤ 8) (lw : ls.length = K) (hl : ∀ l ∈ ls, l.length = n) (hn : n ≤ 1048576) :
    call code (k + 6) 80 [.agg [.int .i64 K, .int .i64 M], .rd true (rowsS ls)] [] = some ⟨.sl 0 0 0 [] 0 (K + M), [⟨0, 1, false, true, rowsS (pcs (gN K M) (K + M) K ls n)⟩], []⟩ := by
  refine call_run rfl fn80 rfl ?_
  have hg := fun k => generator k K M hK hM
  have hp := fun k => pieces k (K + M) K (gN K M) ls n hM ⟨hK, by omega⟩ gN_len (gN_lt hM) lw hl hn
  have hc := gN_cast hM
  rw [hc] at hp
  have hln : (gz K M 0).length = (K + M) * K := by rw [gz_len, Nat.add_mul]; omega
  have hrl : (rowsZ (gz K M 0)).length = (gz K M 0).length := rowsZ_len _
  have htk : (rowsZ (gz K M 0)).take (gz K M 0).length = rowsZ (gz K M 0) := by rw [← hrl, List.take_length]
  generalize hkm : K + M = km at *
  simp [F80, rcall129, hg, rcall131, htk, hrl, hp]
theorem scale_mul {i n K : Nat} (h : i < K) (hn : n * K ≤ 1048576) : (i + 1) * n ≤ n * K := by
  rw [Nat.mul_comm n K]; exact Nat.mul_le_mul_right _ h
end Go.Ae.C3
namespace Go.Ae.C3
set_option linter.unusedSimpArgs false
set_option linter.unusedVariables false
set_option maxRecDepth 10000

structure GShard where
  Pos : Int
  Bytes : ByteArray
namespace GShard
def enc (x : GShard) : List AV := [.int .i64 x.Pos, .str x.Bytes]
def zero : GShard := ⟨0, ByteArray.empty⟩
def mkAt (c : Int) (i : Nat) : GShard := ⟨c + 2 * i, mtext (c + 2 * i + 1)⟩
def wt (x : GShard) : Nat := x.Bytes.size
/-- Numbers of 64 bits, texts of a machine's size. -/
def ok (x : GShard) : Prop := (-9223372036854775808 ≤ x.Pos ∧ x.Pos ≤ 9223372036854775807) ∧ x.Bytes.size ≤ 140737488351232
end GShard
structure GDelta where
  Pos : Int
  At : Int
  Bytes : ByteArray
namespace GDelta
def enc (x : GDelta) : List AV := [.int .i64 x.Pos, .int .i64 x.At, .str x.Bytes]
def zero : GDelta := ⟨0, 0, ByteArray.empty⟩
def mkAt (c : Int) (i : Nat) : GDelta := ⟨c + 3 * i, c + 3 * i + 1, mtext (c + 3 * i + 2)⟩
def wt (x : GDelta) : Nat := x.Bytes.size
/-- Numbers of 64 bits, texts of a machine's size. -/
def ok (x : GDelta) : Prop := (-9223372036854775808 ≤ x.Pos ∧ x.Pos ≤ 9223372036854775807) ∧ (-9223372036854775808 ≤ x.At ∧ x.At ≤ 9223372036854775807) ∧ x.Bytes.size ≤ 140737488351232
end GDelta
theorem fitShardS : ∀ {xs : List (List AV)}, (∀ r ∈ xs, FitsAll [.int .i64, .str] r) → ∃ ws : List GShard, xs = rws GShard.enc ws ∧ ∀ x ∈ ws, x.ok
  | [], _ => ⟨[], rfl, fun _ h => by cases h⟩
  | r :: xs, h => by
    have h0 := h r List.mem_cons_self
    obtain ⟨_, _, rfl, h1, h0⟩ := h0.cons_inv
    obtain ⟨_, _, rfl, h2, h0⟩ := h0.cons_inv
    obtain rfl := h0.nil_inv
    obtain ⟨v0, rfl, w0⟩ := h1.i64_inv
    obtain ⟨v1, rfl, w1⟩ := h2.str_inv
    obtain ⟨ws, rfl, hw⟩ := fitShardS fun x hx => h x (List.mem_cons_of_mem _ hx)
    exact ⟨⟨v0, v1⟩ :: ws, rfl, fun s hs => by rcases List.mem_cons.1 hs with rfl | hs; exact ⟨w0, w1⟩; exact hw s hs⟩
theorem fitInt64S : ∀ {xs : List (List AV)}, (∀ r ∈ xs, FitsAll [.int .i64] r) → ∃ ws : List Int, xs = rws encI ws ∧ ∀ x ∈ ws, (-9223372036854775808 ≤ x ∧ x ≤ 9223372036854775807)
  | [], _ => ⟨[], rfl, fun _ h => by cases h⟩
  | r :: xs, h => by
    have h0 := h r List.mem_cons_self
    obtain ⟨_, _, rfl, h1, h0⟩ := h0.cons_inv
    obtain rfl := h0.nil_inv
    obtain ⟨v0, rfl, w0⟩ := h1.i64_inv
    obtain ⟨ws, rfl, hw⟩ := fitInt64S fun x hx => h x (List.mem_cons_of_mem _ hx)
    exact ⟨v0 :: ws, rfl, fun s hs => by rcases List.mem_cons.1 hs with rfl | hs; exact w0; exact hw s hs⟩
theorem fitStringS : ∀ {xs : List (List AV)}, (∀ r ∈ xs, FitsAll [.str] r) → ∃ ws : List ByteArray, xs = rws encT ws ∧ ∀ x ∈ ws, x.size ≤ 140737488351232
  | [], _ => ⟨[], rfl, fun _ h => by cases h⟩
  | r :: xs, h => by
    have h0 := h r List.mem_cons_self
    obtain ⟨_, _, rfl, h1, h0⟩ := h0.cons_inv
    obtain rfl := h0.nil_inv
    obtain ⟨v0, rfl, w0⟩ := h1.str_inv
    obtain ⟨ws, rfl, hw⟩ := fitStringS fun x hx => h x (List.mem_cons_of_mem _ hx)
    exact ⟨v0 :: ws, rfl, fun s hs => by rcases List.mem_cons.1 hs with rfl | hs; exact w0; exact hw s hs⟩
theorem fitDeltaS : ∀ {xs : List (List AV)}, (∀ r ∈ xs, FitsAll [.int .i64, .int .i64, .str] r) → ∃ ws : List GDelta, xs = rws GDelta.enc ws ∧ ∀ x ∈ ws, x.ok
  | [], _ => ⟨[], rfl, fun _ h => by cases h⟩
  | r :: xs, h => by
    have h0 := h r List.mem_cons_self
    obtain ⟨_, _, rfl, h1, h0⟩ := h0.cons_inv
    obtain ⟨_, _, rfl, h2, h0⟩ := h0.cons_inv
    obtain ⟨_, _, rfl, h3, h0⟩ := h0.cons_inv
    obtain rfl := h0.nil_inv
    obtain ⟨v0, rfl, w0⟩ := h1.i64_inv
    obtain ⟨v1, rfl, w1⟩ := h2.i64_inv
    obtain ⟨v2, rfl, w2⟩ := h3.str_inv
    obtain ⟨ws, rfl, hw⟩ := fitDeltaS fun x hx => h x (List.mem_cons_of_mem _ hx)
    exact ⟨⟨v0, v1, v2⟩ :: ws, rfl, fun s hs => by rcases List.mem_cons.1 hs with rfl | hs; exact ⟨w0, w1, w2⟩; exact hw s hs⟩
theorem markText (k : Nat) (c : Nat) (h : 1 ≤ c ∧ c ≤ 1000000000) : call code (k + 1) 81 [.int .i64 c] [] = some ⟨.str (mtext c), [], []⟩ := by
  refine call_run rfl fn81 rfl ?_
  have hd : ¬ c = 0 := by omega
  simp [F81, hd]
  refine RunC_loop (fun q : Nat × ByteArray => ⟨[.int .i64 q.1, .undef, .undef, .str q.2] ++ List.replicate 16 .undef, [], []⟩)
    (fun q => q.2.size + q.1 ≤ 1000000000 ∧ mdig q.1 q.2 = mdig c ByteArray.empty) (fun q => q.1) (c, ByteArray.empty) ⟨by simp; omega, rfl⟩ (by simp; omega) (by simp) fun q hq _ => ?_
  obtain ⟨n, t⟩ := q
  obtain ⟨h1, h2⟩ := hq
  simp only at h1 h2
  rw [mdig] at h2
  by_cases h0 : n = 0
  · subst h0
    simp at h2
    subst h2
    have hz : (mdig c ByteArray.empty).size ≤ 1000000000 := by omega
    simp [mtext]
    have : ByteArray.size ⟨#[109]⟩ = 1 := rfl
    omega
  · rw [dif_neg h0] at h2
    have hgt : 0 < n := by omega
    have e1 : (n : Int).tmod 10 = ((n % 10 : Nat) : Int) := rfl
    have e2 : (n : Int).tdiv 10 = ((n / 10 : Nat) : Int) := rfl
    have e3 : IntKind.wrap .i64 (48 + ((n % 10 : Nat) : Int)) = 48 + ((n % 10 : Nat) : Int) := wrap64 ⟨by omega, by omega⟩
    have e4 : IntKind.wrap .u8 (48 + ((n % 10 : Nat) : Int)) = 48 + ((n % 10 : Nat) : Int) := by
      simp only [IntKind.wrap, IntKind.signed, IntKind.bits, IntKind.min, IntKind.max]
      simp
      omega
    have e5 : IntKind.wrap .i64 ((n / 10 : Nat) : Int) = ((n / 10 : Nat) : Int) := wrap64 ⟨by omega, by omega⟩
    have hb : bytesOf [[AV.int .u8 (48 + ((n % 10 : Nat) : Int))]] = some [UInt8.ofNat (48 + n % 10)] := by
      simp only [bytesOf]
      rw [show (48 + ((n % 10 : Nat) : Int)).toNat = 48 + n % 10 by omega]
    have hsz : (dig n).size = 1 := rfl
    have hds : ByteArray.mk #[48 + UInt8.ofNat (n % 10)] = dig n := by unfold dig; rw [UInt8.ofNat_add]; rfl
    generalize hm : n % 10 = m at *
    generalize hq : n / 10 = q at *
    simp [hgt, e1, e2, e3, e4, e5, hb, hds, hsz]
    exact ⟨by omega, q, dig n ++ t, ⟨by rw [ByteArray.size_append, hsz]; omega, h2⟩, by omega, rfl, rfl⟩
theorem markTextI (k : Nat) (c : Int) (h : 1 ≤ c ∧ c ≤ 1000000000) : call code (k + 1) 81 [.int .i64 c] [] = some ⟨.str (mtext c), [], []⟩ := by
  obtain ⟨n, rfl⟩ : ∃ n : Nat, c = n := ⟨c.toNat, by omega⟩
  exact markText k n (by omega)
theorem toCode (k : Nat) (v0 : Int) (v1 : Int)  : call code (k + 1) 18 [.agg [.int .i64 v0, .int .i64 v1]] [] = some ⟨.agg [.int .i64 v0, .int .i64 v1], [], []⟩ := by
  refine call_run rfl fn18 rfl ?_
  simp [F18, storeM]
theorem eqCode (k : Nat) (v0 : Int) (v1 : Int)  : call code (k + 1) 91 [.agg [.int .i64 v0, .int .i64 v1], .agg [.int .i64 v0, .int .i64 v1]] [] = some ⟨.bool true, [], []⟩ := by
  refine call_run rfl fn91 rfl ?_
  simp [F91, storeM]
theorem eqStringS (k : Nat) (ws : List ByteArray) (hn : ws.length ≤ 1048576000) : call code (k + 1) 92 [.rd true (rws encT ws), .rd true (rws encT ws)] [] = some ⟨.bool true, [], []⟩ := by
  refine call_run rfl fn92 rfl ?_
  simp [F92]
  refine RunC_loop (fun i : Nat => ⟨tm 26 [(0, .rd true (rws encT ws)), (1, .rd true (rws encT ws)), (5, .int .i64 i)], [], []⟩)
    (fun i => i ≤ ws.length) (fun i => ws.length - i) 0 (Nat.zero_le _) (by simp; omega) (by simp [tm]) fun i hi _ => ?_
  by_cases hlt : i < ws.length
  · have hs := idx_succ' hlt (by omega)
    simp [tm, hlt, hs, encT]
    exact ⟨i + 1, by omega, by omega, by simp⟩
  · have : i = ws.length := by omega
    subst this
    simp [tm]
theorem szStringS (k : Nat) (l : Int) (ws : List ByteArray) (hl : 0 ≤ l ∧ l ≤ 1048576) (hn : ws.length ≤ 140737488351232) (hs : ∀ x ∈ ws, x.size ≤ 140737488351232) : call code (k + 1) 102 [.rd true (rws encT ws), .int .i64 l] [] = some ⟨.int .i64 (szV l (ws.length + wsum ByteArray.size ws)), [], []⟩ := by
  refine call_run rfl fn102 rfl ?_
  have e1 : IntKind.wrap .i64 (l - (ws.length : Int)) = l - ws.length := wrap64 ⟨by omega, by omega⟩
  cases hd : decide (l - (ws.length : Int) < 0)
  · have hd' := of_decide_eq_false hd
    rw [← szV_step (by omega)]
    simp [F102, e1, hd]
    refine RunC_loop (fun q : Nat × Int => ⟨tm 28 [(0, .rd true (rws encT ws)), (1, .int .i64 q.2), (5, .int .i64 q.1)], [], []⟩)
      (fun q => q.1 ≤ ws.length ∧ 0 ≤ q.2 ∧ q.2 ≤ l ∧ szV q.2 (wsum ByteArray.size (ws.drop q.1)) = szV (l - ws.length) (wsum ByteArray.size ws)) (fun q => ws.length - q.1) (0, l - ws.length) ⟨Nat.zero_le _, by simp; omega, by simp; omega, by simp⟩ (by simp; omega) (by simp [tm]) fun q hq _ => ?_
    obtain ⟨i, c⟩ := q
    obtain ⟨h1, h2, h3, h4⟩ := hq
    simp only at h1 h2 h3 h4
    by_cases hlt : i < ws.length
    · have hz := hs ws[i] (List.getElem_mem hlt)
      have hi := idx_succ' hlt (by omega)
      rw [wsum_drop hlt] at h4
      have e2 : IntKind.wrap .i64 (c - (ws[i].size : Int)) = c - ws[i].size := wrap64 ⟨by omega, by omega⟩
      cases hd2 : decide (c - (ws[i].size : Int) < 0)
      · have hd3 := of_decide_eq_false hd2
        rw [← szV_step (by omega)] at h4
        simp [tm, hlt, hi, encT, e2, hd2]
        exact ⟨i + 1, _, ⟨by omega, by omega, by omega, h4⟩, by omega, rfl, by simp⟩
      · have hd3 := of_decide_eq_true hd2
        rw [szV_stop (by omega)] at h4
        simp [tm, hlt, encT, e2, hd2, ← h4]
    · have : i = ws.length := by omega
      subst this
      rw [wsum_all, szV_zero h2] at h4
      simp [tm, h4]
  · rw [szV_stop (by have := of_decide_eq_true hd; omega)]
    simp [F102, e1, hd]
theorem toStringS (k : Nat) (ws : List ByteArray) (hn : ws.length ≤ 1048576) : call code (k + 1) 106 [.rd true (rws encT ws)] [] = some ⟨.sl 0 0 0 [] 0 ws.length, [⟨0, 1, false, true, rws encT ws⟩], []⟩ := by
  refine call_run rfl fn106 rfl ?_
  simp [F106, zeroRow]
  refine ⟨⟨by omega, by omega⟩, ?_⟩
  refine RunC_loop (fun i : Nat => ⟨tm 22 [(0, .rd true (rws encT ws)), (3, .sl 0 66048 0 [] 0 ws.length), (4, .int .i64 i)], [(0, some ⟨0, 1, false, true, []⟩), (66048, some ⟨0, 1, false, true, rws encT (cpy ByteArray.empty ws i)⟩)], []⟩)
    (fun i => i ≤ ws.length) (fun i => ws.length - i) 0 (Nat.zero_le _) (by simp; omega) (by simp [tm, rws_cpy, encT]) fun i hi _ => ?_
  have hcl := cpy_len (z := ByteArray.empty) hi
  by_cases hlt : i < ws.length
  · have hst : (rws encT (cpy ByteArray.empty ws i)).set i (encT ws[i]) = rws encT (cpy ByteArray.empty ws (i + 1)) := by rw [rws_set, cpy_set hlt]
    have hs := idx_succ' hlt (by omega)
    simp only [encT] at hst
    simp [tm, hlt, hcl, hst, hs, encT]
    exact ⟨i + 1, by omega, by omega, by simp, rfl⟩
  · have : i = ws.length := by omega
    subst this
    simp [tm, cpy_all]
theorem eqDelta (k : Nat) (v0 : Int) (v1 : Int) (v2 : ByteArray)  : call code (k + 1) 118 [.agg [.int .i64 v0, .int .i64 v1, .str v2], .agg [.int .i64 v0, .int .i64 v1, .str v2]] [] = some ⟨.bool true, [], []⟩ := by
  refine call_run rfl fn118 rfl ?_
  simp [F118, storeM]
theorem eqWide (k : Nat) (v0 : Int) (v1 : Int) (v2 : Int) (v3 : Int) (v4 : List ByteArray) (hv4 : v4.length ≤ 1048576000) : call code (k + 2) 43 [.agg [.int .i64 v0, .int .i64 v1, .int .i64 v2, .int .i64 v3, .rd true (rws encT v4)], .agg [.int .i64 v0, .int .i64 v1, .int .i64 v2, .int .i64 v3, .rd true (rws encT v4)]] [] = some ⟨.bool true, [], []⟩ := by
  refine call_run rfl fn43 rfl ?_
  have q0 := eqCode
  have q1 := fun k => eqStringS k v4 hv4
  simp [F43, rcall91, rcall92, q0, q1, storeM]
theorem szWide (k : Nat) (l : Int) (v0 : Int) (v1 : Int) (v2 : Int) (v3 : Int) (v4 : List ByteArray) (hl : 0 ≤ l ∧ l ≤ 1048576) (b4 : v4.length ≤ 140737488351232) (c4 : ∀ x ∈ v4, x.size ≤ 140737488351232) : call code (k + 2) 52 [.agg [.int .i64 v0, .int .i64 v1, .int .i64 v2, .int .i64 v3, .rd true (rws encT v4)], .int .i64 l] [] = some ⟨.int .i64 (szV l ((v4.length + wsum ByteArray.size v4))), [], []⟩ := by
  refine call_run rfl fn52 rfl ?_
  have e0 := fun k => szStringS k (l) v4 ⟨by omega, by omega⟩ b4 c4
  cases d0 : decide (szV (l) (v4.length + wsum ByteArray.size v4) < 0)
  rotate_left
  · obtain ⟨a0, z0⟩ := szV_neg d0 (by omega)
    rw [z0] at e0
    have hr : szV l ((v4.length + wsum ByteArray.size v4)) = -1 := szV_gt (by omega)
    rw [hr]; simp [F52, rcall102, e0]
  obtain ⟨a0, z0⟩ := szV_pos d0 (by omega)
  rw [z0] at e0 d0
  try simp only [Int.natCast_add] at e0 d0
  have hr : szV l ((v4.length + wsum ByteArray.size v4)) = l - (((v4.length + wsum ByteArray.size v4) : Nat) : Int) := by rw [szV_le (by omega)] <;> omega
  rw [hr]; simp [F52, rcall102, e0, d0]
theorem toWide (k : Nat) (v0 : Int) (v1 : Int) (v2 : Int) (v3 : Int) (v4 : List ByteArray) (hv4 : v4.length ≤ 1048576) : call code (k + 2) 54 [.agg [.int .i64 v0, .int .i64 v1, .int .i64 v2, .int .i64 v3, .rd true (rws encT v4)]] [] = some ⟨.agg [.int .i64 v0, .int .i64 v1, .int .i64 v2, .int .i64 v3, .sl 0 0 0 [] 0 v4.length], [⟨0, 1, false, true, rws encT v4⟩], []⟩ := by
  refine call_run rfl fn54 rfl ?_
  have q0 := toCode
  have q1 := fun k => toStringS k v4 hv4
  simp [F54, rcall18, rcall106, q0, q1, storeM]
theorem eqDeltaS (k : Nat) (ws : List GDelta) (hn : ws.length ≤ 1048576000) : call code (k + 2) 60 [.rd true (rws GDelta.enc ws), .rd true (rws GDelta.enc ws)] [] = some ⟨.bool true, [], []⟩ := by
  refine call_run rfl fn60 rfl ?_
  simp [F60]
  refine RunC_loop (fun i : Nat => ⟨tm 27 [(0, .rd true (rws GDelta.enc ws)), (1, .rd true (rws GDelta.enc ws)), (5, .int .i64 i)], [], []⟩)
    (fun i => i ≤ ws.length) (fun i => ws.length - i) 0 (Nat.zero_le _) (by simp; omega) (by simp [tm]) fun i hi _ => ?_
  by_cases hlt : i < ws.length
  · have hs := idx_succ' hlt (by omega)
    simp [tm, hlt, hs, GDelta.enc, rcall118, eqDelta]
    exact ⟨i + 1, by omega, by omega, by simp⟩
  · have : i = ws.length := by omega
    subst this
    simp [tm]
set_option maxHeartbeats 4000000 in
theorem markDeltaS (k lv : Nat) (E : List Heap) (S : Nat) (ws : List GDelta) (c : Int) (hn : ws.length ≤ 1100000) (hc : 1 ≤ c ∧ c ≤ 800000000) (hlv : lv < E.length) (hl : (hat E lv).get S = some (some ⟨0, 3, false, true, rws GDelta.enc ws⟩)) :
    call code (k + 2) 61 [.sl (lv + 1) S 0 [] 0 ws.length, .int .i64 c] E = some ⟨.int .i64 (c + 3 * ws.length), [], E.modify lv fun h => hp h S (mblk GDelta.enc 3 GDelta.mkAt c ws) ws.length⟩ := by
  refine call_run rfl fn61 rfl ?_
  simp [F61]
  refine RunC_loop (fun i : Nat => ⟨tm 35 [(0, .sl (lv + 1) S 0 [] 0 ws.length), (1, .int .i64 (c + 3 * i)), (5, .int .i64 i)], [], E.modify lv fun h => hp h S (mblk GDelta.enc 3 GDelta.mkAt c ws) i⟩)
    (fun i => i ≤ ws.length) (fun i => ws.length - i) 0 (Nat.zero_le _) (by simp; omega) (by simp [tm, hp_zero, modify_id']) fun i hi _ => ?_
  have hg : (hp (hat E lv) S (mblk GDelta.enc 3 GDelta.mkAt c ws) i).get S = some (some ⟨0, 3, false, true, rws GDelta.enc (mix (GDelta.mkAt c) ws i)⟩) := hp_get (by rw [mblk_zero]; exact hl) i
  have hml := mix_len (f := GDelta.mkAt c) hi
  by_cases hlt : i < ws.length
  · have hs := idx_succ' hlt (by omega)
    have hset : (rws GDelta.enc (mix (GDelta.mkAt c) ws i)).set i (GDelta.enc (GDelta.mkAt c i)) = rws GDelta.enc (mix (GDelta.mkAt c) ws (i + 1)) := by rw [rws_set, mix_set hlt]
    have hhs : ∀ h : Heap, (hp h S (mblk GDelta.enc 3 GDelta.mkAt c ws) i).set S (some ⟨0, 3, false, true, rws GDelta.enc (mix (GDelta.mkAt c) ws (i + 1))⟩) = hp h S (mblk GDelta.enc 3 GDelta.mkAt c ws) (i + 1) := fun h => hp_set i
    have p0 : IntKind.wrap .i64 (c + 3 * (i : Int) + 1) = c + 3 * (i : Int) + 1 := by rw [wrap64 ⟨by omega, by omega⟩] <;> omega
    have p1 : IntKind.wrap .i64 (c + 3 * (i : Int) + 1 + 1) = c + 3 * (i : Int) + 2 := by rw [wrap64 ⟨by omega, by omega⟩] <;> omega
    have p2 : IntKind.wrap .i64 (c + 3 * (i : Int) + 2 + 1) = c + 3 * ((i + 1 : Nat) : Int) := by rw [wrap64 ⟨by omega, by omega⟩] <;> omega
    have m2 := fun k => markTextI k (c + 3 * (i : Int) + 2) (by omega)
    simp only [GDelta.enc, GDelta.mkAt] at hset
    simp [tm, hlt, hg, blk_succ, heap_succ, put_succ, storeM, hat_modify, modify_modify', hlv, hml, hs, get_set, set_set_same, GDelta.enc, hset, hhs, p0, p1, p2, m2, rcall81]
    exact ⟨i + 1, by omega, by omega, by simp⟩
  · have : i = ws.length := by omega
    subst this
    simp [tm, hg, blk_succ, hml, hat_modify, hlv]
set_option maxHeartbeats 4000000 in
theorem heldDeltaS (k : Nat) (n : Nat) (c : Int) (hn : n ≤ 1100000) (hc : 1 ≤ c ∧ c ≤ 800000000) : call code (k + 2) 62 [.rd true (rws GDelta.enc (marks GDelta.mkAt c n)), .int .i64 c] [] = some ⟨.int .i64 (c + 3 * n), [], []⟩ := by
  refine call_run rfl fn62 rfl ?_
  simp [F62]
  refine RunC_loop (fun i : Nat => ⟨tm 41 [(0, .rd true (rws GDelta.enc (marks GDelta.mkAt c n))), (1, .int .i64 (c + 3 * i)), (5, .int .i64 i)], [], []⟩)
    (fun i => i ≤ n) (fun i => n - i) 0 (Nat.zero_le _) (by simp; omega) (by simp [tm]) fun i hi _ => ?_
  by_cases hlt : i < n
  · have hs := idx_succ' hlt (by omega)
    have p0 : IntKind.wrap .i64 (c + 3 * (i : Int) + 1) = c + 3 * (i : Int) + 1 := by rw [wrap64 ⟨by omega, by omega⟩] <;> omega
    have p1 : IntKind.wrap .i64 (c + 3 * (i : Int) + 1 + 1) = c + 3 * (i : Int) + 2 := by rw [wrap64 ⟨by omega, by omega⟩] <;> omega
    have p2 : IntKind.wrap .i64 (c + 3 * (i : Int) + 2 + 1) = c + 3 * ((i + 1 : Nat) : Int) := by rw [wrap64 ⟨by omega, by omega⟩] <;> omega
    have m2 := fun k => markTextI k (c + 3 * (i : Int) + 2) (by omega)
    simp [tm, hlt, hs, marks_at, GDelta.enc, GDelta.mkAt, p0, p1, p2, m2, rcall81]
    exact ⟨i + 1, by omega, by omega, by simp⟩
  · have : i = n := by omega
    subst this
    simp [tm]
set_option maxHeartbeats 4000000 in
theorem markStringS (k lv : Nat) (E : List Heap) (S : Nat) (ws : List ByteArray) (c : Int) (hn : ws.length ≤ 1100000) (hc : 1 ≤ c ∧ c ≤ 800000000) (hlv : lv < E.length) (hl : (hat E lv).get S = some (some ⟨0, 1, false, true, rws encT ws⟩)) :
    call code (k + 2) 93 [.sl (lv + 1) S 0 [] 0 ws.length, .int .i64 c] E = some ⟨.int .i64 (c + ws.length), [], E.modify lv fun h => hp h S (mblk encT 1 mkT c ws) ws.length⟩ := by
  refine call_run rfl fn93 rfl ?_
  simp [F93]
  refine RunC_loop (fun i : Nat => ⟨tm 20 [(0, .sl (lv + 1) S 0 [] 0 ws.length), (1, .int .i64 (c + i)), (5, .int .i64 i)], [], E.modify lv fun h => hp h S (mblk encT 1 mkT c ws) i⟩)
    (fun i => i ≤ ws.length) (fun i => ws.length - i) 0 (Nat.zero_le _) (by simp; omega) (by simp [tm, hp_zero, modify_id']) fun i hi _ => ?_
  have hg : (hp (hat E lv) S (mblk encT 1 mkT c ws) i).get S = some (some ⟨0, 1, false, true, rws encT (mix (mkT c) ws i)⟩) := hp_get (by rw [mblk_zero]; exact hl) i
  have hml := mix_len (f := mkT c) hi
  by_cases hlt : i < ws.length
  · have hs := idx_succ' hlt (by omega)
    have hset : (rws encT (mix (mkT c) ws i)).set i (encT (mkT c i)) = rws encT (mix (mkT c) ws (i + 1)) := by rw [rws_set, mix_set hlt]
    have hhs : ∀ h : Heap, (hp h S (mblk encT 1 mkT c ws) i).set S (some ⟨0, 1, false, true, rws encT (mix (mkT c) ws (i + 1))⟩) = hp h S (mblk encT 1 mkT c ws) (i + 1) := fun h => hp_set i
    have p0 : IntKind.wrap .i64 (c + (i : Int) + 1) = c + ((i + 1 : Nat) : Int) := by rw [wrap64 ⟨by omega, by omega⟩] <;> omega
    have m0 := fun k => markTextI k (c + (i : Int)) (by omega)
    simp only [encT, mkT] at hset
    simp [tm, hlt, hg, blk_succ, heap_succ, put_succ, storeM, hat_modify, modify_modify', hlv, hml, hs, get_set, set_set_same, encT, hset, hhs, p0, m0, rcall81]
    exact ⟨i + 1, by omega, by omega, by simp⟩
  · have : i = ws.length := by omega
    subst this
    simp [tm, hg, blk_succ, hml, hat_modify, hlv]
set_option maxHeartbeats 4000000 in
theorem heldStringS (k : Nat) (n : Nat) (c : Int) (hn : n ≤ 1100000) (hc : 1 ≤ c ∧ c ≤ 800000000) : call code (k + 2) 94 [.rd true (rws encT (marks mkT c n)), .int .i64 c] [] = some ⟨.int .i64 (c + n), [], []⟩ := by
  refine call_run rfl fn94 rfl ?_
  simp [F94]
  refine RunC_loop (fun i : Nat => ⟨tm 22 [(0, .rd true (rws encT (marks mkT c n))), (1, .int .i64 (c + i)), (5, .int .i64 i)], [], []⟩)
    (fun i => i ≤ n) (fun i => n - i) 0 (Nat.zero_le _) (by simp; omega) (by simp [tm]) fun i hi _ => ?_
  by_cases hlt : i < n
  · have hs := idx_succ' hlt (by omega)
    have p0 : IntKind.wrap .i64 (c + (i : Int) + 1) = c + ((i + 1 : Nat) : Int) := by rw [wrap64 ⟨by omega, by omega⟩] <;> omega
    have m0 := fun k => markTextI k (c + (i : Int)) (by omega)
    simp [tm, hlt, hs, marks_at, encT, mkT, p0, m0, rcall81]
    exact ⟨i + 1, by omega, by omega, by simp⟩
  · have : i = n := by omega
    subst this
    simp [tm]
set_option maxHeartbeats 4000000 in
theorem markWide (k lv : Nat) (E : List Heap) (v0 : Int) (v1 : Int) (v2 : Int) (v3 : Int) (v4 : List ByteArray) (S4 : Nat) (c : Int) (hc : 1 ≤ c ∧ c ≤ 400000000) (hlv : lv < E.length) (nv4 : v4.length ≤ 1100000) (gv4 : (hat E lv).get S4 = some (some ⟨0, 1, false, true, rws encT v4⟩))  :
    call code (k + 3) 44 [.agg [.int .i64 v0, .int .i64 v1, .int .i64 v2, .int .i64 v3, .sl (lv + 1) S4 0 [] 0 v4.length], .int .i64 c] E = some ⟨.int .i64 (c + v4.length), [], E.modify lv fun h => hp (h) S4 (mblk encT 1 mkT (c) v4) v4.length⟩ := by
  refine call_run rfl fn44 rfl ?_
  have q0 := fun k l0 => markStringS k (lv + 1) (l0 :: E) S4 v4 (c) nv4 (by omega) (by simp; omega) (by simpa using gv4)
  simp [F44, rcall93, q0, storeM, modify_modify', hlv]
set_option maxHeartbeats 4000000 in
theorem heldWide (k : Nat) (v0 : Int) (v1 : Int) (v2 : Int) (v3 : Int) (n4 : Nat) (c : Int) (hc : 1 ≤ c ∧ c ≤ 400000000) (hv4 : n4 ≤ 1100000) : call code (k + 3) 45 [.agg [.int .i64 v0, .int .i64 v1, .int .i64 v2, .int .i64 v3, .rd true (rws encT (marks mkT (c) n4))], .int .i64 c] [] = some ⟨.int .i64 (c + n4), [], []⟩ := by
  refine call_run rfl fn45 rfl ?_
  have q0 := fun k => heldStringS k n4 (c) hv4 (by omega)
  have d0 : decide (c + (n4 : Int) < 0) = false := by simp; omega
  simp [F45, rcall94, q0, d0]
end Go.Ae.C3
namespace Go.Ae.C3
set_option linter.unusedSimpArgs false
set_option linter.unusedVariables false
def codeB (K M : Int) : Bool := inB K 1 4 && inB M 0 3
theorem codeOk (k : Nat) (K M : Int) : call code (k + 2) 84 [.agg [.int .i64 K, .int .i64 M]] [] = some ⟨.bool (codeB K M), [], []⟩ := by
  refine call_run rfl fn84 rfl ?_
  have h1 := fun k => between k K 1 4
  have h2 := fun k => between k M 0 3
  cases c1 : inB K 1 4
  · simp [F84, rcall86, h1, c1, codeB]
  · simp [F84, rcall86, h1, h2, c1, codeB]
theorem l04Code (k : Nat) (K M : Int) : call code (k + 2) 88 [.agg [.int .i64 K, .int .i64 M]] [] = some ⟨.bool (codeB K M), [], []⟩ := by
  refine call_run rfl fn88 rfl ?_
  have h1 := fun k => l00In k K 1 4
  have h2 := fun k => l00In k M 0 3
  cases c1 : inB K 1 4
  · simp [F88, rcall77, h1, c1, codeB]
  · simp [F88, rcall77, h1, h2, c1, codeB]
theorem codeB_nat {K M : Int} (h : codeB K M = true) : ∃ a b : Nat, K = a ∧ M = b ∧ 1 ≤ a ∧ a ≤ 4 ∧ b ≤ 3 := by
  simp [codeB, inB] at h
  exact ⟨K.toNat, M.toNat, by omega, by omega, by omega, by omega, by omega⟩
theorem size (k : Nat) (K M : Nat) (h : K ≤ 1000 ∧ M ≤ 1000) : call code (k + 1) 96 [.agg [.int .i64 K, .int .i64 M]] [] = some ⟨.int .i64 (K + M : Nat), [], []⟩ := by
  refine call_run rfl fn96 rfl ?_
  have e1 : IntKind.wrap .i64 ((K : Int) + (M : Int)) = ((K + M : Nat) : Int) := by rw [wrap64 ⟨by omega, by omega⟩]; omega
  generalize K + M = q at *
  simp [F96, e1]
theorem isPos (k : Nat) (K M : Nat) (p : Int) (h : K ≤ 1000 ∧ M ≤ 1000) : call code (k + 2) 79 [.agg [.int .i64 K, .int .i64 M], .int .i64 p] [] = some ⟨.bool (inB p 0 ((K + M : Nat) - 1)), [], []⟩ := by
  refine call_run rfl fn79 rfl ?_
  have hz := fun k => size k K M h
  have e1 : IntKind.wrap .i64 (((K + M : Nat) : Int) - 1) = ((K + M : Nat) : Int) - 1 := wrap64 ⟨by omega, by omega⟩
  have hb := fun k => between k p 0 (((K + M : Nat) : Int) - 1)
  generalize K + M = q at *
  simp [F79, rcall96, hz, e1, rcall86, hb]
theorem shs_len (K M : Nat) (l : List UInt8) : (shs K M l).length = K + M := by simp [shs, pcs_len]
end Go.Ae.C3
