/- A matrix times a column of texts, twice told. -/
import Derived.Test.YtnfghcflpnlbiaaC3M1
import Derived.Test.YtnfghcflpnlbiaaAeL6
import Derived.Test.YtnfghcflpnlbiaaC3Code
namespace Go.Ae.C3
set_option linter.unusedSimpArgs false
set_option linter.unusedVariables false
theorem repeatL_zero : ∀ n, Lib.repeatL [0] n = List.replicate n 0
  | 0 => rfl
  | n + 1 => by rw [Lib.repeatL, repeatL_zero n]; rfl
theorem zeros (k n : Nat) (hn : n ≤ 1048576) : call code (k + 1) 135 [.str ⟨#[0]⟩, .int .i64 n] [] = some ⟨.str (B (List.replicate n 0)), [], []⟩ := by
  refine nat135 k _ _ _ _ ?_
  have hsz : (ByteArray.mk #[(0 : UInt8)]).size = 1 := rfl
  simp only [natRepeat]
  rw [if_pos ⟨by omega, by omega, by rw [hsz]; simp; omega⟩]
  simp only [repB, Int.toNat_natCast]
  rw [repeatL_zero]; rfl
def acc (an : List Nat) (w : Nat) (ls : List (List UInt8)) (n i : Nat) : Nat → List UInt8
  | 0 => List.replicate n 0
  | k + 1 => sm (acc an w ls n i k) (scl (an.getD (i * w + k) 0) (ls.getD k []))
def pcs (an : List Nat) (h w : Nat) (ls : List (List UInt8)) (n : Nat) : List (List UInt8) := (List.range h).map fun i => acc an w ls n i w
theorem acc_len {an : List Nat} {w : Nat} {ls : List (List UInt8)} {n i : Nat} (hl : ∀ l ∈ ls, l.length = n) : ∀ k, k ≤ ls.length → (acc an w ls n i k).length = n
  | 0, _ => by simp [acc]
  | k + 1, h => by
    have h1 := acc_len (an := an) (w := w) (i := i) hl k (by omega)
    have h2 : (ls.getD k []).length = n := by
      rw [List.getD_eq_getElem?_getD, List.getElem?_eq_getElem (by omega)]; exact hl _ (List.getElem_mem _)
    rw [acc, sm_len (by rw [scl_len, h1, h2]), h1]
theorem pcs_len (an : List Nat) (h w : Nat) (ls : List (List UInt8)) (n : Nat) : (pcs an h w ls n).length = h := by simp [pcs]
def rowsS (ls : List (List UInt8)) : List (List AV) := rws encT (ls.map B)
@[simp] theorem rowsS_len (ls : List (List UInt8)) : (rowsS ls).length = ls.length := by simp [rowsS]
theorem rowsS_at {ls : List (List UInt8)} {i : Nat} (h : i < ls.length) (h' : i < (rowsS ls).length) : (rowsS ls)[i]'h' = [.str (B (ls.getD i []))] := by
  simp [rowsS, encT, List.getD_eq_getElem?_getD, h]
theorem rowsS_app (ls : List (List UInt8)) (l : List UInt8) : rowsS ls ++ [[.str (B l)]] = rowsS (ls ++ [l]) := by simp [rowsS, rws, encT]
theorem pcs_app (an : List Nat) (i w : Nat) (ls : List (List UInt8)) (n : Nat) : pcs an i w ls n ++ [acc an w ls n i w] = pcs an (i + 1) w ls n := by simp [pcs, List.range_succ]
theorem rowsS_get {ls : List (List UInt8)} {i : Nat} (h : i < ls.length) (h' : i < (rowsS ls).length) : (rowsS ls)[i]'h' = [.str (B ls[i])] := by
  simp [rowsS, encT]
theorem acc_step {an : List Nat} {w : Nat} {ls : List (List UInt8)} {n i q : Nat} (h : q < ls.length) : sm (acc an w ls n i q) (scl (an.getD (i * w + q) 0) ls[q]) = acc an w ls n i (q + 1) := by
  rw [acc, List.getD_eq_getElem?_getD (l := ls), List.getElem?_eq_getElem h]; rfl
set_option maxHeartbeats 4000000 in
theorem pieces (k : Nat) (h w : Nat) (an : List Nat) (ls : List (List UInt8)) (n : Nat) (hh : h ≤ 8) (hw : 1 ≤ w ∧ w ≤ 8) (la : an.length = h * w) (ha : ∀ x ∈ an, x < 256) (lw : ls.length = w) (hl : ∀ l ∈ ls, l.length = n) (hn : n ≤ 1048576) :
    call code (k + 4) 131 [.agg [.int .i64 h, .int .i64 w, .rd true (rowsZ (castL an))], .rd true (rowsS ls)] [] = some ⟨.sl 0 0 0 [] 0 h, [⟨0, 1, false, true, rowsS (pcs an h w ls n)⟩], []⟩ := by
  refine call_run rfl fn131 rfl ?_
  have hw64 : h * w ≤ 64 := Nat.mul_le_mul hh hw.2
  simp [F131]
  refine RunC_loop (fun i : Nat => ⟨tm 44 [(1, .rd true (rowsS ls)), (2, .ptr 0 0 0 [] 0 0), (5, .sl 0 65536 0 [] 0 i), (11, .int .i64 h), (12, .int .i64 i)], [(0, some ⟨0, 3, true, false, [[.int .i64 h, .int .i64 w, .rd true (rowsZ (castL an))]]⟩), (256, some ⟨0, 1, false, true, []⟩), (65536, some ⟨0, 1, false, true, rowsS (pcs an i w ls n)⟩)], []⟩)
    (fun i => i ≤ h) (fun i => h - i) 0 (Nat.zero_le _) (by simp; omega) (by simp [tm, pcs, rowsS]) fun i hi _ => ?_
  by_cases hlt : i < h
  · have hs := idx_succ' hlt (by omega)
    have hmul : (i + 1) * w ≤ h * w := Nat.mul_le_mul_right _ hlt
    have hrow := fun k l => rowRd k l h w i an (by omega) (by omega) (by omega) (by omega)
    have hpl : (prt an (i * w) ((i + 1) * w)).length = w := by rw [prt_len (by omega), Nat.add_mul]; omega
    have hrl : (rowsZ (castL (prt an (i * w) ((i + 1) * w)))).length = w := by rw [rowsZ_len, castL_len, hpl]
    have h0 : (0 : Nat) < ls.length := by omega
    have hg0 : ∀ h, (rowsS ls)[0]'h = [.str (B ls[0])] := fun h => rowsS_get h0 h
    have hl0 : ls[0].length = n := hl _ (List.getElem_mem _)
    have hz := fun k => zeros k n hn
    simp [tm, hlt, h0, hg0, hl0, hz, rcall135, rcall155, hrow, hrl, pcs_len]
    refine RunC_loop (fun q : Nat => ⟨tm 44 [(1, .rd true (rowsS ls)), (2, .ptr 0 0 0 [] 0 0), (5, .sl 0 65536 0 [] 0 i), (7, .str (B (acc an w ls n i q))), (11, .int .i64 h), (12, .int .i64 i), (22, .rd true (rowsZ (castL (prt an (i * w) ((i + 1) * w))))), (23, .int .i64 w), (24, .int .i64 q)],
        [(0, some ⟨0, 3, true, false, [[.int .i64 h, .int .i64 w, .rd true (rowsZ (castL an))]]⟩), (256, some ⟨0, 1, false, true, []⟩), (65536, some ⟨0, 1, false, true, rowsS (pcs an i w ls n)⟩)], []⟩)
      (fun q => q ≤ w) (fun q => w - q) 0 (Nat.zero_le _) (by simp; omega) (by simp [tm, acc]) fun q hq _ => ?_
    by_cases hlq : q < w
    · have hsq := idx_succ' hlq (by omega)
      have hq' : q < ls.length := by omega
      have hgq : ∀ h, (rowsS ls)[q]'h = [.str (B ls[q])] := fun h => rowsS_get hq' h
      have hlq2 : ls[q].length = n := hl _ (List.getElem_mem _)
      have hpg : (prt an (i * w) ((i + 1) * w)).getD q 0 = an.getD (i * w + q) 0 := prt_get (by rw [Nat.add_mul]; omega)
      have hgr : ∀ h, (rowsZ (castL (prt an (i * w) ((i + 1) * w))))[q]'h = [.int .i64 ((an.getD (i * w + q) 0 : Nat) : Int)] := fun h => by rw [← hpg]; exact rowsC_at (by rw [hpl]; exact hlq) h
      have hlt8 := getD_lt ha (i * w + q)
      have hal := acc_len (an := an) (w := w) (i := i) hl q (by omega)
      have hstep := acc_step (an := an) (w := w) (n := n) (i := i) hq'
      generalize an.getD (i * w + q) 0 = e at *
      generalize ls[q] = lq at *
      have hsc := fun k => scaled k e lq hlt8 (by omega)
      have hsm := fun k => summed k (acc an w ls n i q) (scl e lq) (by rw [scl_len, hal, hlq2]) (by omega)
      rw [hstep] at hsm
      simp [tm, hlq, hq', hsq, hgq, hgr, hrl, rcall159, hsc, rcall147, hsm]
      exact ⟨q + 1, by omega, by omega, by simp, rfl⟩
    · have : q = w := by omega
      subst this
      have hap := rowsS_app (pcs an i q ls n) (acc an q ls n i q)
      rw [pcs_app] at hap
      simp [tm, hs, evalW, source, pcs_len, hap]
      exact ⟨by omega, i + 1, by omega, by omega, by simp, rfl⟩
  · have : i = h := by omega
    subst this
    simp [tm, pcs_len]
end Go.Ae.C3
namespace Go.Ae.C3
set_option linter.unusedSimpArgs false
set_option linter.unusedVariables false
set_option maxHeartbeats 4000000 in
theorem l03Pieces (k : Nat) (h w : Nat) (an : List Nat) (ls : List (List UInt8)) (n : Nat) (hh : h ≤ 8) (hw : 1 ≤ w ∧ w ≤ 8) (la : an.length = h * w) (ha : ∀ x ∈ an, x < 256) (lw : ls.length = w) (hl : ∀ l ∈ ls, l.length = n) (hn : n ≤ 1048576) :
    call code (k + 4) 132 [.agg [.int .i64 h, .int .i64 w, .rd true (rowsZ (castL an))], .rd true (rowsS ls)] [] = some ⟨.sl 0 0 0 [] 0 h, [⟨0, 1, false, true, rowsS (pcs an h w ls n)⟩], []⟩ := by
  refine call_run rfl fn132 rfl ?_
  have hw64 : h * w ≤ 64 := Nat.mul_le_mul hh hw.2
  simp [F132]
  refine RunC_loop (fun i : Nat => ⟨tm 48 [(1, .rd true (rowsS ls)), (2, .ptr 0 0 0 [] 0 0), (5, .sl 0 65536 0 [] 0 i), (6, .int .i64 i)], [(0, some ⟨0, 3, true, false, [[.int .i64 h, .int .i64 w, .rd true (rowsZ (castL an))]]⟩), (256, some ⟨0, 1, false, true, []⟩), (65536, some ⟨0, 1, false, true, rowsS (pcs an i w ls n)⟩)], []⟩)
    (fun i => i ≤ h) (fun i => h - i) 0 (Nat.zero_le _) (by simp; omega) (by simp [tm, pcs, rowsS]) fun i hi _ => ?_
  by_cases hlt : i < h
  · have hs := idx_succ' hlt (by omega)
    have hmul : (i + 1) * w ≤ h * w := Nat.mul_le_mul_right _ hlt
    have h0 : (0 : Nat) < ls.length := by omega
    have hg0 : ∀ h, (rowsS ls)[0]'h = [.str (B ls[0])] := fun h => rowsS_get h0 h
    have hl0 : ls[0].length = n := hl _ (List.getElem_mem _)
    have hz := fun k => l02Scale k 0 ls[0] (by omega) (by omega)
    rw [scl_zero, hl0] at hz
    have hrl : (rowsZ (castL an)).length = h * w := by rw [rowsZ_len, castL_len, la]
    simp at hz
    simp [tm, hlt, h0, hg0, hl0, hz, rcall160]
    refine RunC_loop (fun q : Nat => ⟨tm 48 [(1, .rd true (rowsS ls)), (2, .ptr 0 0 0 [] 0 0), (5, .sl 0 65536 0 [] 0 i), (6, .int .i64 i), (7, .str (B (acc an w ls n i q))), (8, .int .i64 q)],
        [(0, some ⟨0, 3, true, false, [[.int .i64 h, .int .i64 w, .rd true (rowsZ (castL an))]]⟩), (256, some ⟨0, 1, false, true, []⟩), (65536, some ⟨0, 1, false, true, rowsS (pcs an i w ls n)⟩)], []⟩)
      (fun q => q ≤ w) (fun q => w - q) 0 (Nat.zero_le _) (by simp; omega) (by simp [tm, acc]) fun q hq _ => ?_
    by_cases hlq : q < w
    · have hsq := idx_succ' hlq (by omega)
      have hq' : q < ls.length := by omega
      have hgq : ∀ h, (rowsS ls)[q]'h = [.str (B ls[q])] := fun h => rowsS_get hq' h
      have hlq2 : ls[q].length = n := hl _ (List.getElem_mem _)
      have hbound : i * w + q < an.length := by rw [la]; rw [Nat.add_mul] at hmul; omega
      have hgr : ∀ h, (rowsZ (castL an))[i * w + q]'h = [.int .i64 ((an.getD (i * w + q) 0 : Nat) : Int)] := fun h => rowsC_at hbound h
      have e1 : IntKind.wrap .i64 ((i : Int) * (w : Int)) = ((i * w : Nat) : Int) := by rw [show (i : Int) * (w : Int) = ((i * w : Nat) : Int) by simp, wrap64 ⟨by omega, by omega⟩]
      have e2 : IntKind.wrap .i64 (((i * w : Nat) : Int) + (q : Int)) = ((i * w + q : Nat) : Int) := by rw [wrap64 ⟨by omega, by omega⟩]; omega
      have hlt8 := getD_lt ha (i * w + q)
      have hal := acc_len (an := an) (w := w) (i := i) hl q (by omega)
      have hstep := acc_step (an := an) (w := w) (n := n) (i := i) hq'
      rw [la] at hbound
      generalize an.getD (i * w + q) 0 = e at *
      generalize ls[q] = lq at *
      generalize hiw : i * w = iw at *
      generalize hiq : iw + q = iq at *
      generalize hhw : h * w = hwm at *
      have hsc := fun k => l02Scale k e lq hlt8 (by omega)
      have hsm := fun k => l02Sum k (acc an w ls n i q) (scl e lq) (by rw [scl_len, hal, hlq2]) (by omega)
      rw [hstep] at hsm
      simp [tm, hlq, hq', hsq, hgq, hgr, hrl, e1, e2, hbound, rcall160, hsc, rcall146, hsm]
      exact ⟨q + 1, by omega, by omega, by simp, rfl⟩
    · have : q = w := by omega
      subst this
      have hap := rowsS_app (pcs an i q ls n) (acc an q ls n i q)
      rw [pcs_app] at hap
      simp [tm, hs, evalW, source, pcs_len, hap]
      exact ⟨by omega, i + 1, by omega, by omega, by simp, rfl⟩
  · have : i = h := by omega
    subst this
    simp [tm, pcs_len]
end Go.Ae.C3
namespace Go.Ae.C3
set_option linter.unusedSimpArgs false
set_option linter.unusedVariables false
theorem B_app (l r : List UInt8) : B l ++ B r = B (l ++ r) := by
  simp only [B]
  apply ByteArray.ext
  simp [ByteArray.data_append]
theorem B_cut (l : List UInt8) (a b : Nat) : (B l).extract a b = B ((l.drop a).take (b - a)) := by
  apply ByteArray.ext
  simp only [ByteArray.data_extract, B]
  apply Array.ext'
  simp [List.take_drop]
  try (congr 1; omega)
def gN (k m : Nat) : List Nat := (gz k m 0).map Int.toNat
theorem uz_val {n i : Nat} {x : Int} (h : x ∈ uz n i) : x = 0 ∨ x = 1 := by
  simp only [uz, List.mem_map] at h
  obtain ⟨a, _, rfl⟩ := h
  split
  · exact .inr rfl
  · exact .inl rfl
theorem gz_val {k m : Nat} (hk : k + m ≤ 8) {x : Int} (h : x ∈ gz k m 0) : ∃ n : Nat, x = n ∧ n < 256 := by
  simp only [gz, List.mem_append, List.mem_flatMap, List.mem_map, List.mem_range] at h
  rcases h with (h | ⟨a, ha, b, hb, rfl⟩) | ⟨b, hb, _⟩
  · rcases uz_val h with rfl | rfl
    · exact ⟨0, rfl, by decide⟩
    · exact ⟨1, rfl, by decide⟩
  · exact ⟨_, rfl, gm_lt (by omega)⟩
  · omega
theorem castL_toNat : ∀ {l : List Int}, (∀ x ∈ l, ∃ n : Nat, x = n ∧ n < 256) → castL (l.map Int.toNat) = l
  | [], _ => rfl
  | x :: l, h => by
    obtain ⟨n, rfl, _⟩ := h x List.mem_cons_self
    have := castL_toNat (l := l) fun y hy => h y (List.mem_cons_of_mem _ hy)
    simp only [castL, List.map_map] at this
    simp [castL, this]
theorem gN_cast {k m : Nat} (hk : k + m ≤ 8) : castL (gN k m) = gz k m 0 := castL_toNat fun x hx => gz_val hk hx
theorem gN_lt {k m : Nat} (hk : k + m ≤ 8) : ∀ x ∈ gN k m, x < 256 := by
  intro x hx
  simp only [gN, List.mem_map] at hx
  obtain ⟨y, hy, rfl⟩ := hx
  obtain ⟨n, rfl, hn⟩ := gz_val hk hy
  simpa using hn
theorem gN_len {k m : Nat} : (gN k m).length = (k + m) * k := by
  rw [gN, List.length_map, gz_len, Nat.add_mul]; omega
def psz (K n : Nat) : Nat := (n + K - 1) / K
def pad (K : Nat) (l : List UInt8) : List UInt8 := l ++ List.replicate (psz K l.length * K - l.length) 0
def cutAt (n : Nat) (p : List UInt8) (i : Nat) : List UInt8 := (p.drop (i * n)).take n
def dat (K : Nat) (l : List UInt8) (i : Nat) : List (List UInt8) := (List.range i).map (cutAt (psz K l.length) (pad K l))
theorem psz_le {K n : Nat} (hK : 1 ≤ K) : n ≤ psz K n * K ∧ psz K n ≤ n := by
  unfold psz
  have h1 := Nat.div_add_mod (n + K - 1) K
  have h2 := Nat.mod_lt (n + K - 1) (show K > 0 by omega)
  rw [Nat.mul_comm] at h1
  refine ⟨by omega, ?_⟩
  by_cases hn : n = 0
  · subst hn
    rw [Nat.div_eq_of_lt (by omega)]; omega
  · apply Nat.div_le_of_le_mul
    have : n + K ≤ K * n + 1 := by
      obtain ⟨a, rfl⟩ : ∃ a, n = a + 1 := ⟨n - 1, by omega⟩
      obtain ⟨b, rfl⟩ : ∃ b, K = b + 1 := ⟨K - 1, by omega⟩
      rw [Nat.add_mul, Nat.mul_add]; omega
    omega
theorem pad_len {K : Nat} {l : List UInt8} (hK : 1 ≤ K) : (pad K l).length = psz K l.length * K := by
  have := (psz_le (n := l.length) hK).1
  simp [pad]; omega
theorem cut_len {K : Nat} {l : List UInt8} (hK : 1 ≤ K) {i : Nat} (hi : i < K) : (cutAt (psz K l.length) (pad K l) i).length = psz K l.length := by
  have h := pad_len (l := l) hK
  have h2 : (i + 1) * psz K l.length ≤ K * psz K l.length := Nat.mul_le_mul_right _ hi
  rw [Nat.add_mul, Nat.mul_comm K] at h2
  simp [cutAt, h]; omega
theorem dat_len (K : Nat) (l : List UInt8) (i : Nat) : (dat K l i).length = i := by simp [dat]
theorem dat_all {K : Nat} {l : List UInt8} (hK : 1 ≤ K) : ∀ x ∈ dat K l K, x.length = psz K l.length := by
  intro x hx
  simp only [dat, List.mem_map, List.mem_range] at hx
  obtain ⟨i, hi, rfl⟩ := hx
  exact cut_len hK hi
theorem dat_app (K : Nat) (l : List UInt8) (i : Nat) : dat K l i ++ [cutAt (psz K l.length) (pad K l) i] = dat K l (i + 1) := by simp [dat, List.range_succ]
/-- All shards. -/
def shs (K M : Nat) (l : List UInt8) : List (List UInt8) := pcs (gN K M) (K + M) K (dat K l K) (psz K l.length)
theorem encoded (k : Nat) (K M : Nat) (ls : List (List UInt8)) (n : Nat) (hK : 1 ≤ K) (hM : K + M ≤ 8) (lw : ls.length = K) (hl : ∀ l ∈ ls, l.length = n) (hn : n ≤ 1048576) :
    call code (k + 6) 80 [.agg [.int .i64 K, .int .i64 M], .rd true (rowsS ls)] [] = some ⟨.sl 0 0 0 [] 0 (K + M), [⟨0, 1, false, true, rowsS (pcs (gN K M) (K + M) K ls n)⟩], []⟩ := by
  refine call_run rfl fn80 rfl ?_
  have hg := fun k => generator k K M hK hM
  have hp := fun k => pieces k (K + M) K (gN K M) ls n hM ⟨hK, by omega⟩ gN_len (gN_lt hM) lw hl hn
  have hc := gN_cast hM
  rw [hc] at hp
  have hln : (gz K M 0).length = (K + M) * K := by rw [gz_len, Nat.add_mul]; omega
  have hrl : (rowsZ (gz K M 0)).length = (gz K M 0).length := rowsZ_len _
  have htk : (rowsZ (gz K M 0)).take (gz K M 0).length = rowsZ (gz K M 0) := by rw [← hrl, List.take_length]
  generalize hkm : K + M = km at *
  simp [F80, rcall129, hg, rcall131, htk, hrl, hp]
theorem scale_mul {i n K : Nat} (h : i < K) (hn : n * K ≤ 1048576) : (i + 1) * n ≤ n * K := by
  rw [Nat.mul_comm n K]; exact Nat.mul_le_mul_right _ h
end Go.Ae.C3
namespace Go.Ae.C3
set_option linter.unusedSimpArgs false
set_option linter.unusedVariables false
set_option maxRecDepth 10000

structure GShard where
  Pos : Int
  Bytes : ByteArray
namespace GShard
def enc (x : GShard) : List AV := [.int .i64 x.Pos, .str x.Bytes]
def zero : GShard := ⟨0, ByteArray.empty⟩
def mkAt (c : Int) (i : Nat) : GShard := ⟨c + 2 * i, mtext (c + 2 * i + 1)⟩
def wt (x : GShard) : Nat := x.Bytes.size
/-- Numbers of 64 bits, texts of a machine's size. -/
def ok (x : GShard) : Prop := (-9223372036854775808 ≤ x.Pos ∧ x.Pos ≤ 9223372036854775807) ∧ x.Bytes.size ≤ 140737488351232
end GShard
structure GDelta where
  Pos : Int
  At : Int
  Bytes : ByteArray
namespace GDelta
def enc (x : GDelta) : List AV := [.int .i64 x.Pos, .int .i64 x.At, .str x.Bytes]
def zero : GDelta := ⟨0, 0, ByteArray.empty⟩
def mkAt (c : Int) (i : Nat) : GDelta := ⟨c + 3 * i, c + 3 * i + 1, mtext (c + 3 * i + 2)⟩
def wt (x : GDelta) : Nat := x.Bytes.size
/-- Numbers of 64 bits, texts of a machine's size. -/
def ok (x : GDelta) : Prop := (-9223372036854775808 ≤ x.Pos ∧ x.Pos ≤ 9223372036854775807) ∧ (-9223372036854775808 ≤ x.At ∧ x.At ≤ 9223372036854775807) ∧ x.Bytes.size ≤ 140737488351232
end GDelta
theorem fitShardS : ∀ {xs : List (List AV)}, (∀ r ∈ xs, FitsAll [.int .i64, .str] r) → ∃ ws : List GShard, xs = rws GShard.enc ws ∧ ∀ x ∈ ws, x.ok
  | [], _ => ⟨[], rfl, fun _ h => by cases h⟩
  | r :: xs, h => by
    have h0 := h r List.mem_cons_self
    obtain ⟨_, _, rfl, h1, h0⟩ := h0.cons_inv
    obtain ⟨_, _, rfl, h2, h0⟩ := h0.cons_inv
    obtain rfl := h0.nil_inv
    obtain ⟨v0, rfl, w0⟩ := h1.i64_inv
    obtain ⟨v1, rfl, w1⟩ := h2.str_inv
    obtain ⟨ws, rfl, hw⟩ := fitShardS fun x hx => h x (List.mem_cons_of_mem _ hx)
    exact ⟨⟨v0, v1⟩ :: ws, rfl, fun s hs => by rcases List.mem_cons.1 hs with rfl | hs; exact ⟨w0, w1⟩; exact hw s hs⟩
theorem fitInt64S : ∀ {xs : List (List AV)}, (∀ r ∈ xs, FitsAll [.int .i64] r) → ∃ ws : List Int, xs = rws encI ws ∧ ∀ x ∈ ws, (-9223372036854775808 ≤ x ∧ x ≤ 9223372036854775807)
  | [], _ => ⟨[], rfl, fun _ h => by cases h⟩
  | r :: xs, h => by
    have h0 := h r List.mem_cons_self
    obtain ⟨_, _, rfl, h1, h0⟩ := h0.cons_inv
    obtain rfl := h0.nil_inv
    obtain ⟨v0, rfl, w0⟩ := h1.i64_inv
    obtain ⟨ws, rfl, hw⟩ := fitInt64S fun x hx => h x (List.mem_cons_of_mem _ hx)
    exact ⟨v0 :: ws, rfl, fun s hs => by rcases List.mem_cons.1 hs with rfl | hs; exact w0; exact hw s hs⟩
theorem fitStringS : ∀ {xs : List (List AV)}, (∀ r ∈ xs, FitsAll [.str] r) → ∃ ws : List ByteArray, xs = rws encT ws ∧ ∀ x ∈ ws, x.size ≤ 140737488351232
  | [], _ => ⟨[], rfl, fun _ h => by cases h⟩
  | r :: xs, h => by
    have h0 := h r List.mem_cons_self
    obtain ⟨_, _, rfl, h1, h0⟩ := h0.cons_inv
    obtain rfl := h0.nil_inv
    obtain ⟨v0, rfl, w0⟩ := h1.str_inv
    obtain ⟨ws, rfl, hw⟩ := fitStringS fun x hx => h x (List.mem_cons_of_mem _ hx)
    exact ⟨v0 :: ws, rfl, fun s hs => by rcases List.mem_cons.1 hs with rfl | hs; exact w0; exact hw s hs⟩
theorem fitDeltaS : ∀ {xs : List (List AV)}, (∀ r ∈ xs, FitsAll [.int .i64, .int .i64, .str] r) → ∃ ws : List GDelta, xs = rws GDelta.enc ws ∧ ∀ x ∈ ws, x.ok
  | [], _ => ⟨[], rfl, fun _ h => by cases h⟩
  | r :: xs, h => by
    have h0 := h r List.mem_cons_self
    obtain ⟨_, _, rfl, h1, h0⟩ := h0.cons_inv
    obtain ⟨_, _, rfl, h2, h0⟩ := h0.cons_inv
    obtain ⟨_, _, rfl, h3, h0⟩ := h0.cons_inv
    obtain rfl := h0.nil_inv
    obtain ⟨v0, rfl, w0⟩ := h1.i64_inv
    obtain ⟨v1, rfl, w1⟩ := h2.i64_inv
    obtain ⟨v2, rfl, w2⟩ := h3.str_inv
    obtain ⟨ws, rfl, hw⟩ := fitDeltaS fun x hx => h x (List.mem_cons_of_mem _ hx)
    exact ⟨⟨v0, v1, v2⟩ :: ws, rfl, fun s hs => by rcases List.mem_cons.1 hs with rfl | hs; exact ⟨w0, w1, w2⟩; exact hw s hs⟩
theorem toCode (k : Nat) (v0 : Int) (v1 : Int)  : call code (k + 1) 18 [.agg [.int .i64 v0, .int .i64 v1]] [] = some ⟨.agg [.int .i64 v0, .int .i64 v1], [], []⟩ := by
  refine call_run rfl fn18 rfl ?_
  simp [F18, storeM]
theorem eqInt64S (k : Nat) (ws : List Int) (hn : ws.length ≤ 1048576000) : call code (k + 1) 26 [.rd true (rws encI ws), .rd true (rws encI ws)] [] = some ⟨.bool true, [], []⟩ := by
  refine call_run rfl fn26 rfl ?_
  simp [F26]
  refine RunC_loop (fun i : Nat => ⟨tm 26 [(0, .rd true (rws encI ws)), (1, .rd true (rws encI ws)), (5, .int .i64 i)], [], []⟩)
    (fun i => i ≤ ws.length) (fun i => ws.length - i) 0 (Nat.zero_le _) (by simp; omega) (by simp [tm]) fun i hi _ => ?_
  by_cases hlt : i < ws.length
  · have hs := idx_succ' hlt (by omega)
    simp [tm, hlt, hs, encI]
    exact ⟨i + 1, by omega, by omega, by simp⟩
  · have : i = ws.length := by omega
    subst this
    simp [tm]
theorem toInt64S (k : Nat) (ws : List Int) (hn : ws.length ≤ 1048576) : call code (k + 1) 57 [.rd true (rws encI ws)] [] = some ⟨.sl 0 0 0 [] 0 ws.length, [⟨0, 1, false, true, rws encI ws⟩], []⟩ := by
  refine call_run rfl fn57 rfl ?_
  simp [F57, zeroRow]
  refine ⟨⟨by omega, by omega⟩, ?_⟩
  refine RunC_loop (fun i : Nat => ⟨tm 22 [(0, .rd true (rws encI ws)), (3, .sl 0 66048 0 [] 0 ws.length), (4, .int .i64 i)], [(0, some ⟨0, 1, false, true, []⟩), (66048, some ⟨0, 1, false, true, rws encI (cpy (0 : Int) ws i)⟩)], []⟩)
    (fun i => i ≤ ws.length) (fun i => ws.length - i) 0 (Nat.zero_le _) (by simp; omega) (by simp [tm, rws_cpy, encI]) fun i hi _ => ?_
  have hcl := cpy_len (z := (0 : Int)) hi
  by_cases hlt : i < ws.length
  · have hst : (rws encI (cpy (0 : Int) ws i)).set i (encI ws[i]) = rws encI (cpy (0 : Int) ws (i + 1)) := by rw [rws_set, cpy_set hlt]
    have hs := idx_succ' hlt (by omega)
    simp only [encI] at hst
    simp [tm, hlt, hcl, hst, hs, encI]
    exact ⟨i + 1, by omega, by omega, by simp, rfl⟩
  · have : i = ws.length := by omega
    subst this
    simp [tm, cpy_all]
theorem eqCode (k : Nat) (v0 : Int) (v1 : Int)  : call code (k + 1) 91 [.agg [.int .i64 v0, .int .i64 v1], .agg [.int .i64 v0, .int .i64 v1]] [] = some ⟨.bool true, [], []⟩ := by
  refine call_run rfl fn91 rfl ?_
  simp [F91, storeM]
theorem eqStringS (k : Nat) (ws : List ByteArray) (hn : ws.length ≤ 1048576000) : call code (k + 1) 92 [.rd true (rws encT ws), .rd true (rws encT ws)] [] = some ⟨.bool true, [], []⟩ := by
  refine call_run rfl fn92 rfl ?_
  simp [F92]
  refine RunC_loop (fun i : Nat => ⟨tm 26 [(0, .rd true (rws encT ws)), (1, .rd true (rws encT ws)), (5, .int .i64 i)], [], []⟩)
    (fun i => i ≤ ws.length) (fun i => ws.length - i) 0 (Nat.zero_le _) (by simp; omega) (by simp [tm]) fun i hi _ => ?_
  by_cases hlt : i < ws.length
  · have hs := idx_succ' hlt (by omega)
    simp [tm, hlt, hs, encT]
    exact ⟨i + 1, by omega, by omega, by simp⟩
  · have : i = ws.length := by omega
    subst this
    simp [tm]
theorem szStringS (k : Nat) (l : Int) (ws : List ByteArray) (hl : 0 ≤ l ∧ l ≤ 1048576) (hn : ws.length ≤ 140737488351232) (hs : ∀ x ∈ ws, x.size ≤ 140737488351232) : call code (k + 1) 102 [.rd true (rws encT ws), .int .i64 l] [] = some ⟨.int .i64 (szV l (ws.length + wsum ByteArray.size ws)), [], []⟩ := by
  refine call_run rfl fn102 rfl ?_
  have e1 : IntKind.wrap .i64 (l - (ws.length : Int)) = l - ws.length := wrap64 ⟨by omega, by omega⟩
  cases hd : decide (l - (ws.length : Int) < 0)
  · have hd' := of_decide_eq_false hd
    rw [← szV_step (by omega)]
    simp [F102, e1, hd]
    refine RunC_loop (fun q : Nat × Int => ⟨tm 28 [(0, .rd true (rws encT ws)), (1, .int .i64 q.2), (5, .int .i64 q.1)], [], []⟩)
      (fun q => q.1 ≤ ws.length ∧ 0 ≤ q.2 ∧ q.2 ≤ l ∧ szV q.2 (wsum ByteArray.size (ws.drop q.1)) = szV (l - ws.length) (wsum ByteArray.size ws)) (fun q => ws.length - q.1) (0, l - ws.length) ⟨Nat.zero_le _, by simp; omega, by simp; omega, by simp⟩ (by simp; omega) (by simp [tm]) fun q hq _ => ?_
    obtain ⟨i, c⟩ := q
    obtain ⟨h1, h2, h3, h4⟩ := hq
    simp only at h1 h2 h3 h4
    by_cases hlt : i < ws.length
    · have hz := hs ws[i] (List.getElem_mem hlt)
      have hi := idx_succ' hlt (by omega)
      rw [wsum_drop hlt] at h4
      have e2 : IntKind.wrap .i64 (c - (ws[i].size : Int)) = c - ws[i].size := wrap64 ⟨by omega, by omega⟩
      cases hd2 : decide (c - (ws[i].size : Int) < 0)
      · have hd3 := of_decide_eq_false hd2
        rw [← szV_step (by omega)] at h4
        simp [tm, hlt, hi, encT, e2, hd2]
        exact ⟨i + 1, _, ⟨by omega, by omega, by omega, h4⟩, by omega, rfl, by simp⟩
      · have hd3 := of_decide_eq_true hd2
        rw [szV_stop (by omega)] at h4
        simp [tm, hlt, encT, e2, hd2, ← h4]
    · have : i = ws.length := by omega
      subst this
      rw [wsum_all, szV_zero h2] at h4
      simp [tm, h4]
  · rw [szV_stop (by have := of_decide_eq_true hd; omega)]
    simp [F102, e1, hd]
theorem toStringS (k : Nat) (ws : List ByteArray) (hn : ws.length ≤ 1048576) : call code (k + 1) 106 [.rd true (rws encT ws)] [] = some ⟨.sl 0 0 0 [] 0 ws.length, [⟨0, 1, false, true, rws encT ws⟩], []⟩ := by
  refine call_run rfl fn106 rfl ?_
  simp [F106, zeroRow]
  refine ⟨⟨by omega, by omega⟩, ?_⟩
  refine RunC_loop (fun i : Nat => ⟨tm 22 [(0, .rd true (rws encT ws)), (3, .sl 0 66048 0 [] 0 ws.length), (4, .int .i64 i)], [(0, some ⟨0, 1, false, true, []⟩), (66048, some ⟨0, 1, false, true, rws encT (cpy ByteArray.empty ws i)⟩)], []⟩)
    (fun i => i ≤ ws.length) (fun i => ws.length - i) 0 (Nat.zero_le _) (by simp; omega) (by simp [tm, rws_cpy, encT]) fun i hi _ => ?_
  have hcl := cpy_len (z := ByteArray.empty) hi
  by_cases hlt : i < ws.length
  · have hst : (rws encT (cpy ByteArray.empty ws i)).set i (encT ws[i]) = rws encT (cpy ByteArray.empty ws (i + 1)) := by rw [rws_set, cpy_set hlt]
    have hs := idx_succ' hlt (by omega)
    simp only [encT] at hst
    simp [tm, hlt, hcl, hst, hs, encT]
    exact ⟨i + 1, by omega, by omega, by simp, rfl⟩
  · have : i = ws.length := by omega
    subst this
    simp [tm, cpy_all]
theorem eqWide (k : Nat) (v0 : Int) (v1 : Int) (v2 : Int) (v3 : Int) (v4 : List ByteArray) (hv4 : v4.length ≤ 1048576000) : call code (k + 2) 43 [.agg [.int .i64 v0, .int .i64 v1, .int .i64 v2, .int .i64 v3, .rd true (rws encT v4)], .agg [.int .i64 v0, .int .i64 v1, .int .i64 v2, .int .i64 v3, .rd true (rws encT v4)]] [] = some ⟨.bool true, [], []⟩ := by
  refine call_run rfl fn43 rfl ?_
  have q0 := eqCode
  have q1 := fun k => eqStringS k v4 hv4
  simp [F43, rcall91, rcall92, q0, q1, storeM]
theorem szWide (k : Nat) (l : Int) (v0 : Int) (v1 : Int) (v2 : Int) (v3 : Int) (v4 : List ByteArray) (hl : 0 ≤ l ∧ l ≤ 1048576) (b4 : v4.length ≤ 140737488351232) (c4 : ∀ x ∈ v4, x.size ≤ 140737488351232) : call code (k + 2) 52 [.agg [.int .i64 v0, .int .i64 v1, .int .i64 v2, .int .i64 v3, .rd true (rws encT v4)], .int .i64 l] [] = some ⟨.int .i64 (szV l ((v4.length + wsum ByteArray.size v4))), [], []⟩ := by
  refine call_run rfl fn52 rfl ?_
  have e0 := fun k => szStringS k (l) v4 ⟨by omega, by omega⟩ b4 c4
  cases d0 : decide (szV (l) (v4.length + wsum ByteArray.size v4) < 0)
  rotate_left
  · obtain ⟨a0, z0⟩ := szV_neg d0 (by omega)
    rw [z0] at e0
    have hr : szV l ((v4.length + wsum ByteArray.size v4)) = -1 := szV_gt (by omega)
    rw [hr]; simp [F52, rcall102, e0]
  obtain ⟨a0, z0⟩ := szV_pos d0 (by omega)
  rw [z0] at e0 d0
  try simp only [Int.natCast_add] at e0 d0
  have hr : szV l ((v4.length + wsum ByteArray.size v4)) = l - (((v4.length + wsum ByteArray.size v4) : Nat) : Int) := by rw [szV_le (by omega)] <;> omega
  rw [hr]; simp [F52, rcall102, e0, d0]
theorem toWide (k : Nat) (v0 : Int) (v1 : Int) (v2 : Int) (v3 : Int) (v4 : List ByteArray) (hv4 : v4.length ≤ 1048576) : call code (k + 2) 54 [.agg [.int .i64 v0, .int .i64 v1, .int .i64 v2, .int .i64 v3, .rd true (rws encT v4)]] [] = some ⟨.agg [.int .i64 v0, .int .i64 v1, .int .i64 v2, .int .i64 v3, .sl 0 0 0 [] 0 v4.length], [⟨0, 1, false, true, rws encT v4⟩], []⟩ := by
  refine call_run rfl fn54 rfl ?_
  have q0 := toCode
  have q1 := fun k => toStringS k v4 hv4
  simp [F54, rcall18, rcall106, q0, q1, storeM]
end Go.Ae.C3
namespace Go.Ae.C3
set_option linter.unusedSimpArgs false
set_option linter.unusedVariables false
def codeB (K M : Int) : Bool := inB K 1 4 && inB M 0 3
theorem codeOk (k : Nat) (K M : Int) : call code (k + 2) 84 [.agg [.int .i64 K, .int .i64 M]] [] = some ⟨.bool (codeB K M), [], []⟩ := by
  refine call_run rfl fn84 rfl ?_
  have h1 := fun k => between k K 1 4
  have h2 := fun k => between k M 0 3
  cases c1 : inB K 1 4
  · simp [F84, rcall86, h1, c1, codeB]
  · simp [F84, rcall86, h1, h2, c1, codeB]
theorem l04Code (k : Nat) (K M : Int) : call code (k + 2) 88 [.agg [.int .i64 K, .int .i64 M]] [] = some ⟨.bool (codeB K M), [], []⟩ := by
  refine call_run rfl fn88 rfl ?_
  have h1 := fun k => l00In k K 1 4
  have h2 := fun k => l00In k M 0 3
  cases c1 : inB K 1 4
  · simp [F88, rcall77, h1, c1, codeB]
  · simp [F88, rcall77, h1, h2, c1, codeB]
theorem codeB_nat {K M : Int} (h : codeB K M = true) : ∃ a b : Nat, K = a ∧ M = b ∧ 1 ≤ a ∧ a ≤ 4 ∧ b ≤ 3 := by
  simp [codeB, inB] at h
  exact ⟨K.toNat, M.toNat, by omega, by omega, by omega, by omega, by omega⟩
theorem size (k : Nat) (K M : Nat) (h : K ≤ 1000 ∧ M ≤ 1000) : call code (k + 1) 96 [.agg [.int .i64 K, .int .i64 M]] [] = some ⟨.int .i64 (K + M : Nat), [], []⟩ := by
  refine call_run rfl fn96 rfl ?_
  have e1 : IntKind.wrap .i64 ((K : Int) + (M : Int)) = ((K + M : Nat) : Int) := by rw [wrap64 ⟨by omega, by omega⟩]; omega
  generalize K + M = q at *
  simp [F96, e1]
theorem shs_len (K M : Nat) (l : List UInt8) : (shs K M l).length = K + M := by simp [shs, pcs_len]
end Go.Ae.C3
