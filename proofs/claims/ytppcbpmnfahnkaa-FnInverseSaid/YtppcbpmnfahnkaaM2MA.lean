/- Texts of bytes: multiplied, added, twice told. -/
import Derived.Test.YtppcbpmnfahnkaaM2M9
namespace Go.Ae.M2
set_option linter.unusedSimpArgs false
set_option linter.unusedVariables false
def B (l : List UInt8) : ByteArray := ⟨l.toArray⟩
@[simp] theorem B_size (l : List UInt8) : (B l).size = l.length := by simp [B, ByteArray.size]
@[simp] theorem B_list (l : List UInt8) : (B l).data.toList = l := by simp [B]
theorem B_eta (s : ByteArray) : B s.data.toList = s := by cases s; simp [B]
theorem B_get (l : List UInt8) (i : Nat) : (B l)[i]? = l[i]? := by rw [bget, B_list]
@[simp] theorem B_at (l : List UInt8) (i : Nat) (h : i < (B l).size) : (B l)[i]'h = l[i]'(by simpa using h) := rfl
theorem B_mk (l : List UInt8) : (⟨l.toArray⟩ : ByteArray) = B l := rfl
def encB (b : UInt8) : List AV := [.int .u8 b.toNat]
theorem bytesOf_rws : ∀ l : List UInt8, bytesOf (rws encB l) = some l
  | [] => rfl
  | b :: l => by
    have h := bytesOf_rws l
    rw [rws_cons]
    simp [encB, bytesOf, h]
def scl (a : Nat) (l : List UInt8) : List UInt8 := l.map fun c => UInt8.ofNat (gm a c.toNat)
def sm (l r : List UInt8) : List UInt8 := List.zipWith (· ^^^ ·) l r
@[simp] theorem scl_len (a : Nat) (l : List UInt8) : (scl a l).length = l.length := by simp [scl]
theorem sm_len {l r : List UInt8} (h : l.length = r.length) : (sm l r).length = l.length := by simp [sm, h]
theorem gXor8 (a b : UInt8) : gXor .u8 a.toNat b.toNat = ((a ^^^ b).toNat : Int) := by
  have ha := a.toNat_lt
  have hb := b.toNat_lt
  have h : a.toNat ^^^ b.toNat < 2 ^ 8 := Nat.xor_lt_two_pow (by omega) (by omega)
  have e : (BitVec.ofInt 8 (a.toNat : Int) ^^^ BitVec.ofInt 8 (b.toNat : Int)).toNat = a.toNat ^^^ b.toNat := by
    rw [BitVec.toNat_xor, BitVec.ofInt_natCast, BitVec.ofInt_natCast, BitVec.toNat_ofNat, BitVec.toNat_ofNat, Nat.mod_eq_of_lt (by omega), Nat.mod_eq_of_lt (by omega)]
  show IntKind.wrap .u8 ((BitVec.ofInt 8 (a.toNat : Int) ^^^ BitVec.ofInt 8 (b.toNat : Int)).toNat : Int) = _
  rw [e, UInt8.toNat_xor]
  simp only [IntKind.wrap, IntKind.signed, IntKind.bits]
  simp
  omega
theorem wrap8 {n : Nat} (h : n < 256) : IntKind.wrap .u8 (n : Int) = ((UInt8.ofNat n).toNat : Int) := by
  simp only [IntKind.wrap, IntKind.signed, IntKind.bits]
  simp
theorem wrap64u (c : UInt8) : IntKind.wrap .i64 (c.toNat : Int) = ((c.toNat : Nat) : Int) := by
  have := c.toNat_lt
  rw [wrap64 ⟨by omega, by omega⟩]
theorem summed (k : Nat) (l r : List UInt8) (hl : l.length = r.length) (hn : l.length ≤ 1048576) : call code (k + 1) 90 [.str (B l), .str (B r)] [] = some ⟨.str (B (sm l r)), [], []⟩ := by
  refine call_run rfl fn90 rfl ?_
  have hz : List.replicate l.length [AV.int .u8 0] = rws encB (List.replicate l.length 0) := by simp [rws_rep, encB]
  have hrl : (List.replicate l.length (0 : UInt8)).length = l.length := by simp
  simp [F90, zeroRow, hz]
  refine ⟨by omega, ?_⟩
  let f : Nat → UInt8 := fun i => (sm l r).getD i 0
  refine RunC_loop (fun i : Nat => ⟨tm 28 [(0, .str (B l)), (1, .str (B r)), (5, .sl 0 66048 0 [] 0 l.length), (11, .int .i64 l.length), (12, .int .i64 i)], [(66048, some ⟨0, 1, false, true, rws encB (mix f (List.replicate l.length 0) i)⟩)], []⟩)
    (fun i => i ≤ l.length) (fun i => l.length - i) 0 (Nat.zero_le _) (by simp; omega) (by simp [tm, mix_zero]) fun i hi _ => ?_
  have hml : (mix f (List.replicate l.length 0) i).length = l.length := by rw [mix_len (by rw [hrl]; exact hi), hrl]
  by_cases hlt : i < l.length
  · have hs := idx_succ' hlt (by omega)
    have hri : i < r.length := by omega
    have hf : f i = l[i] ^^^ r[i] := by
      show (sm l r).getD i 0 = _
      rw [List.getD_eq_getElem?_getD, List.getElem?_eq_getElem (by rw [sm_len hl]; exact hlt)]
      simp [sm]
    have hset : (rws encB (mix f (List.replicate l.length 0) i)).set i (encB (f i)) = rws encB (mix f (List.replicate l.length 0) (i + 1)) := by rw [rws_set, mix_set (by rw [hrl]; exact hlt)]
    rw [hf] at hset
    simp only [encB] at hset
    have hx := gXor8 l[i] r[i]
    generalize l[i] ^^^ r[i] = x at hx hset
    simp [tm, hlt, hri, hml, B_get, hs, hx, hset, encB]
    exact ⟨i + 1, by omega, by omega, by simp⟩
  · have : i = l.length := by omega
    subst this
    have hall : mix f (List.replicate l.length 0) l.length = sm l r := by
      have := mix_all (f := f) (ws := List.replicate l.length (0 : UInt8))
      rw [hrl] at this
      rw [this]
      apply List.ext_getElem
      · simp [sm_len hl]
      · intro j h1 h2
        simp [f, List.getD_eq_getElem?_getD, List.getElem?_eq_getElem h2]
    have htk : (rws encB (sm l r)).take l.length = rws encB (sm l r) := List.take_of_length_le (by simp [sm_len hl])
    have hb := bytesOf_rws (sm l r)
    have hsl := sm_len hl
    simp [tm, hall, htk, hb, hsl, B_mk]
theorem appB (l : List UInt8) (x : UInt8) : rws encB l ++ [[.int .u8 x.toNat]] = rws encB (l ++ [x]) := by simp [rws, encB]
theorem gm_zero_left (b : Nat) : ∀ n, gml n 0 b 0 = 0
  | 0 => rfl
  | n + 1 => by
    have : dbl 0 = 0 := by decide
    simp only [gml, this]
    have h2 : (if b % 2 = 1 then 0 ^^^ 0 else 0) = 0 := by split <;> rfl
    rw [h2]; exact gm_zero_left (b / 2) n
theorem scl_zero (l : List UInt8) : scl 0 l = List.replicate l.length 0 := by
  unfold scl
  have : ∀ c : UInt8, UInt8.ofNat (gm 0 c.toNat) = 0 := fun c => by unfold gm; rw [gm_zero_left]; rfl
  simp only [this]
  rw [List.map_const']
theorem scl_at (a : Nat) (l : List UInt8) (i : Nat) (h : i < l.length) : (scl a l).getD i 0 = UInt8.ofNat (gm a l[i].toNat) := by
  rw [List.getD_eq_getElem?_getD, List.getElem?_eq_getElem (by simpa using h)]
  simp [scl]
theorem scaled (k : Nat) (a : Nat) (l : List UInt8) (ha : a < 256) (hn : l.length ≤ 1048576) : call code (k + 3) 91 [.int .i64 a, .str (B l)] [] = some ⟨.str (B (scl a l)), [], []⟩ := by
  refine call_run rfl fn91 rfl ?_
  have hz : List.replicate l.length [AV.int .u8 0] = rws encB (List.replicate l.length 0) := by simp [rws_rep, encB]
  have hrl : (List.replicate l.length (0 : UInt8)).length = l.length := by simp
  simp [F91, zeroRow, hz]
  refine ⟨by omega, ?_⟩
  let f : Nat → UInt8 := fun i => (scl a l).getD i 0
  refine RunC_loop (fun i : Nat => ⟨tm 28 [(0, .int .i64 a), (1, .str (B l)), (5, .sl 0 66048 0 [] 0 l.length), (11, .int .i64 l.length), (12, .int .i64 i)], [(66048, some ⟨0, 1, false, true, rws encB (mix f (List.replicate l.length 0) i)⟩)], []⟩)
    (fun i => i ≤ l.length) (fun i => l.length - i) 0 (Nat.zero_le _) (by simp; omega) (by simp [tm, mix_zero]) fun i hi _ => ?_
  have hml : (mix f (List.replicate l.length 0) i).length = l.length := by rw [mix_len (by rw [hrl]; exact hi), hrl]
  by_cases hlt : i < l.length
  · have hs := idx_succ' hlt (by omega)
    have hf : f i = UInt8.ofNat (gm a l[i].toNat) := scl_at a l i hlt
    have hset : (rws encB (mix f (List.replicate l.length 0) i)).set i (encB (f i)) = rws encB (mix f (List.replicate l.length 0) (i + 1)) := by rw [rws_set, mix_set (by rw [hrl]; exact hlt)]
    rw [hf] at hset
    simp only [encB] at hset
    have hb := l[i].toNat_lt
    have ht := fun k => times k a l[i].toNat ha hb
    have hw := wrap8 (gm_lt (b := l[i].toNat) ha)
    have hu := wrap64u l[i]
    rw [← hw] at hset
    generalize gm a l[i].toNat = g at *
    simp [tm, hlt, hml, hs, hset, encB, rcall41, ht, hu]
    exact ⟨i + 1, by omega, by omega, by simp⟩
  · have : i = l.length := by omega
    subst this
    have hall : mix f (List.replicate l.length 0) l.length = scl a l := by
      have := mix_all (f := f) (ws := List.replicate l.length (0 : UInt8))
      rw [hrl] at this
      rw [this]
      apply List.ext_getElem
      · simp
      · intro j h1 h2
        simp [f, List.getD_eq_getElem?_getD, List.getElem?_eq_getElem h2]
    have htk : (rws encB (scl a l)).take l.length = rws encB (scl a l) := List.take_of_length_le (by simp)
    have hb := bytesOf_rws (scl a l)
    simp [tm, hall, htk, hb, B_mk]
end Go.Ae.M2
namespace Go.Ae.M2
set_option linter.unusedSimpArgs false
set_option linter.unusedVariables false
theorem repeatL_zero : ∀ n, Lib.repeatL [0] n = List.replicate n 0
  | 0 => rfl
  | n + 1 => by rw [Lib.repeatL, repeatL_zero n]; rfl
theorem zeros (k n : Nat) (hn : n ≤ 1048576) : call code (k + 1) 69 [.str ⟨#[0]⟩, .int .i64 n] [] = some ⟨.str (B (List.replicate n 0)), [], []⟩ := by
  refine nat69 k _ _ _ _ ?_
  have hsz : (ByteArray.mk #[(0 : UInt8)]).size = 1 := rfl
  simp only [natRepeat]
  rw [if_pos ⟨by omega, by omega, by rw [hsz]; simp; omega⟩]
  simp only [repB, Int.toNat_natCast]
  rw [repeatL_zero]; rfl
def acc (an : List Nat) (w : Nat) (ls : List (List UInt8)) (n i : Nat) : Nat → List UInt8
  | 0 => List.replicate n 0
  | k + 1 => sm (acc an w ls n i k) (scl (an.getD (i * w + k) 0) (ls.getD k []))
def pcs (an : List Nat) (h w : Nat) (ls : List (List UInt8)) (n : Nat) : List (List UInt8) := (List.range h).map fun i => acc an w ls n i w
theorem acc_len {an : List Nat} {w : Nat} {ls : List (List UInt8)} {n i : Nat} (hl : ∀ l ∈ ls, l.length = n) : ∀ k, k ≤ ls.length → (acc an w ls n i k).length = n
  | 0, _ => by simp [acc]
  | k + 1, h => by
    have h1 := acc_len (an := an) (w := w) (i := i) hl k (by omega)
    have h2 : (ls.getD k []).length = n := by
      rw [List.getD_eq_getElem?_getD, List.getElem?_eq_getElem (by omega)]; exact hl _ (List.getElem_mem _)
    rw [acc, sm_len (by rw [scl_len, h1, h2]), h1]
theorem pcs_len (an : List Nat) (h w : Nat) (ls : List (List UInt8)) (n : Nat) : (pcs an h w ls n).length = h := by simp [pcs]
def rowsS (ls : List (List UInt8)) : List (List AV) := rws encT (ls.map B)
@[simp] theorem rowsS_len (ls : List (List UInt8)) : (rowsS ls).length = ls.length := by simp [rowsS]
theorem rowsS_at {ls : List (List UInt8)} {i : Nat} (h : i < ls.length) (h' : i < (rowsS ls).length) : (rowsS ls)[i]'h' = [.str (B (ls.getD i []))] := by
  simp [rowsS, encT, List.getD_eq_getElem?_getD, h]
theorem rowsS_app (ls : List (List UInt8)) (l : List UInt8) : rowsS ls ++ [[.str (B l)]] = rowsS (ls ++ [l]) := by simp [rowsS, rws, encT]
theorem pcs_app (an : List Nat) (i w : Nat) (ls : List (List UInt8)) (n : Nat) : pcs an i w ls n ++ [acc an w ls n i w] = pcs an (i + 1) w ls n := by simp [pcs, List.range_succ]
theorem rowsS_get {ls : List (List UInt8)} {i : Nat} (h : i < ls.length) (h' : i < (rowsS ls).length) : (rowsS ls)[i]'h' = [.str (B ls[i])] := by
  simp [rowsS, encT]
theorem acc_step {an : List Nat} {w : Nat} {ls : List (List UInt8)} {n i q : Nat} (h : q < ls.length) : sm (acc an w ls n i q) (scl (an.getD (i * w + q) 0) ls[q]) = acc an w ls n i (q + 1) := by
  rw [acc, List.getD_eq_getElem?_getD (l := ls), List.getElem?_eq_getElem h]; rfl
set_option maxHeartbeats 4000000 in
theorem pieces (k : Nat) (h w : Nat) (an : List Nat) (ls : List (List UInt8)) (n : Nat) (hh : h ≤ 8) (hw : 1 ≤ w ∧ w ≤ 8) (la : an.length = h * w) (ha : ∀ x ∈ an, x < 256) (lw : ls.length = w) (hl : ∀ l ∈ ls, l.length = n) (hn : n ≤ 1048576) :
    call code (k + 4) 84 [.agg [.int .i64 h, .int .i64 w, .rd true (rowsZ (castL an))], .rd true (rowsS ls)] [] = some ⟨.sl 0 0 0 [] 0 h, [⟨0, 1, false, true, rowsS (pcs an h w ls n)⟩], []⟩ := by
  refine call_run rfl fn84 rfl ?_
  have hw64 : h * w ≤ 64 := Nat.mul_le_mul hh hw.2
  simp [F84]
  refine RunC_loop (fun i : Nat => ⟨tm 44 [(1, .rd true (rowsS ls)), (2, .ptr 0 0 0 [] 0 0), (5, .sl 0 65536 0 [] 0 i), (11, .int .i64 h), (12, .int .i64 i)], [(0, some ⟨0, 3, true, false, [[.int .i64 h, .int .i64 w, .rd true (rowsZ (castL an))]]⟩), (256, some ⟨0, 1, false, true, []⟩), (65536, some ⟨0, 1, false, true, rowsS (pcs an i w ls n)⟩)], []⟩)
    (fun i => i ≤ h) (fun i => h - i) 0 (Nat.zero_le _) (by simp; omega) (by simp [tm, pcs, rowsS]) fun i hi _ => ?_
  by_cases hlt : i < h
  · have hs := idx_succ' hlt (by omega)
    have hmul : (i + 1) * w ≤ h * w := Nat.mul_le_mul_right _ hlt
    have hrow := fun k l => rowRd k l h w i an (by omega) (by omega) (by omega) (by omega)
    have hpl : (prt an (i * w) ((i + 1) * w)).length = w := by rw [prt_len (by omega), Nat.add_mul]; omega
    have hrl : (rowsZ (castL (prt an (i * w) ((i + 1) * w)))).length = w := by rw [rowsZ_len, castL_len, hpl]
    have h0 : (0 : Nat) < ls.length := by omega
    have hg0 : ∀ h, (rowsS ls)[0]'h = [.str (B ls[0])] := fun h => rowsS_get h0 h
    have hl0 : ls[0].length = n := hl _ (List.getElem_mem _)
    have hz := fun k => zeros k n hn
    simp [tm, hlt, h0, hg0, hl0, hz, rcall69, rcall40, hrow, hrl, pcs_len]
    refine RunC_loop (fun q : Nat => ⟨tm 44 [(1, .rd true (rowsS ls)), (2, .ptr 0 0 0 [] 0 0), (5, .sl 0 65536 0 [] 0 i), (7, .str (B (acc an w ls n i q))), (11, .int .i64 h), (12, .int .i64 i), (22, .rd true (rowsZ (castL (prt an (i * w) ((i + 1) * w))))), (23, .int .i64 w), (24, .int .i64 q)],
        [(0, some ⟨0, 3, true, false, [[.int .i64 h, .int .i64 w, .rd true (rowsZ (castL an))]]⟩), (256, some ⟨0, 1, false, true, []⟩), (65536, some ⟨0, 1, false, true, rowsS (pcs an i w ls n)⟩)], []⟩)
      (fun q => q ≤ w) (fun q => w - q) 0 (Nat.zero_le _) (by simp; omega) (by simp [tm, acc]) fun q hq _ => ?_
    by_cases hlq : q < w
    · have hsq := idx_succ' hlq (by omega)
      have hq' : q < ls.length := by omega
      have hgq : ∀ h, (rowsS ls)[q]'h = [.str (B ls[q])] := fun h => rowsS_get hq' h
      have hlq2 : ls[q].length = n := hl _ (List.getElem_mem _)
      have hpg : (prt an (i * w) ((i + 1) * w)).getD q 0 = an.getD (i * w + q) 0 := prt_get (by rw [Nat.add_mul]; omega)
      have hgr : ∀ h, (rowsZ (castL (prt an (i * w) ((i + 1) * w))))[q]'h = [.int .i64 ((an.getD (i * w + q) 0 : Nat) : Int)] := fun h => by rw [← hpg]; exact rowsC_at (by rw [hpl]; exact hlq) h
      have hlt8 := getD_lt ha (i * w + q)
      have hal := acc_len (an := an) (w := w) (i := i) hl q (by omega)
      have hstep := acc_step (an := an) (w := w) (n := n) (i := i) hq'
      generalize an.getD (i * w + q) 0 = e at *
      generalize ls[q] = lq at *
      have hsc := fun k => scaled k e lq hlt8 (by omega)
      have hsm := fun k => summed k (acc an w ls n i q) (scl e lq) (by rw [scl_len, hal, hlq2]) (by omega)
      rw [hstep] at hsm
      simp [tm, hlq, hq', hsq, hgq, hgr, hrl, rcall91, hsc, rcall90, hsm]
      exact ⟨q + 1, by omega, by omega, by simp, rfl⟩
    · have : q = w := by omega
      subst this
      have hap := rowsS_app (pcs an i q ls n) (acc an q ls n i q)
      rw [pcs_app] at hap
      simp [tm, hs, evalW, source, pcs_len, hap]
      exact ⟨by omega, i + 1, by omega, by omega, by simp, rfl⟩
  · have : i = h := by omega
    subst this
    simp [tm, pcs_len]
end Go.Ae.M2
namespace Go.Ae.M2
set_option linter.unusedSimpArgs false
set_option linter.unusedVariables false
theorem B_app (l r : List UInt8) : B l ++ B r = B (l ++ r) := by
  simp only [B]
  apply ByteArray.ext
  simp [ByteArray.data_append]
theorem B_cut (l : List UInt8) (a b : Nat) : (B l).extract a b = B ((l.drop a).take (b - a)) := by
  apply ByteArray.ext
  simp only [ByteArray.data_extract, B]
  apply Array.ext'
  simp [List.take_drop]
  try (congr 1; omega)
def psz (K n : Nat) : Nat := (n + K - 1) / K
def pad (K : Nat) (l : List UInt8) : List UInt8 := l ++ List.replicate (psz K l.length * K - l.length) 0
def cutAt (n : Nat) (p : List UInt8) (i : Nat) : List UInt8 := (p.drop (i * n)).take n
def dat (K : Nat) (l : List UInt8) (i : Nat) : List (List UInt8) := (List.range i).map (cutAt (psz K l.length) (pad K l))
theorem psz_le {K n : Nat} (hK : 1 ≤ K) : n ≤ psz K n * K ∧ psz K n ≤ n := by
  unfold psz
  have h1 := Nat.div_add_mod (n + K - 1) K
  have h2 := Nat.mod_lt (n + K - 1) (show K > 0 by omega)
  rw [Nat.mul_comm] at h1
  refine ⟨by omega, ?_⟩
  by_cases hn : n = 0
  · subst hn
    rw [Nat.div_eq_of_lt (by omega)]; omega
  · apply Nat.div_le_of_le_mul
    have : n + K ≤ K * n + 1 := by
      obtain ⟨a, rfl⟩ : ∃ a, n = a + 1 := ⟨n - 1, by omega⟩
      obtain ⟨b, rfl⟩ : ∃ b, K = b + 1 := ⟨K - 1, by omega⟩
      rw [Nat.add_mul, Nat.mul_add]; omega
    omega
theorem pad_len {K : Nat} {l : List UInt8} (hK : 1 ≤ K) : (pad K l).length = psz K l.length * K := by
  have := (psz_le (n := l.length) hK).1
  simp [pad]; omega
theorem cut_len {K : Nat} {l : List UInt8} (hK : 1 ≤ K) {i : Nat} (hi : i < K) : (cutAt (psz K l.length) (pad K l) i).length = psz K l.length := by
  have h := pad_len (l := l) hK
  have h2 : (i + 1) * psz K l.length ≤ K * psz K l.length := Nat.mul_le_mul_right _ hi
  rw [Nat.add_mul, Nat.mul_comm K] at h2
  simp [cutAt, h]; omega
theorem dat_len (K : Nat) (l : List UInt8) (i : Nat) : (dat K l i).length = i := by simp [dat]
theorem dat_all {K : Nat} {l : List UInt8} (hK : 1 ≤ K) : ∀ x ∈ dat K l K, x.length = psz K l.length := by
  intro x hx
  simp only [dat, List.mem_map, List.mem_range] at hx
  obtain ⟨i, hi, rfl⟩ := hx
  exact cut_len hK hi
theorem dat_app (K : Nat) (l : List UInt8) (i : Nat) : dat K l i ++ [cutAt (psz K l.length) (pad K l) i] = dat K l (i + 1) := by simp [dat, List.range_succ]
/-- All shards. -/
def shs (K M : Nat) (l : List UInt8) : List (List UInt8) := pcs (gN K M) (K + M) K (dat K l K) (psz K l.length)
theorem piece (k : Nat) (K n : Nat) (M : Int) (hK : 1 ≤ K ∧ K ≤ 1000) (hn : n ≤ 1048576) : call code (k + 1) 68 [.agg [.int .i64 K, .int .i64 M], .int .i64 n] [] = some ⟨.int .i64 (psz K n : Nat), [], []⟩ := by
  refine call_run rfl fn68 rfl ?_
  have e1 : IntKind.wrap .i64 ((n : Int) + (K : Int)) = (n : Int) + K := wrap64 ⟨by omega, by omega⟩
  have e2 : IntKind.wrap .i64 ((n : Int) + (K : Int) - 1) = ((n + K - 1 : Nat) : Int) := by rw [wrap64 ⟨by omega, by omega⟩]; omega
  have e3 : ((n + K - 1 : Nat) : Int).tdiv (K : Int) = (psz K n : Nat) := rfl
  have hp := psz_le (n := n) hK.1
  have e4 : IntKind.wrap .i64 ((psz K n : Nat) : Int) = (psz K n : Nat) := wrap64 ⟨by omega, by omega⟩
  have h0 : ¬ K = 0 := by omega
  generalize psz K n = q at *
  generalize hg : n + K - 1 = g at *
  simp [F68, e1, e2, e3, e4, h0]
theorem encoded (k : Nat) (K M : Nat) (ls : List (List UInt8)) (n : Nat) (hK : 1 ≤ K) (hM : K + M ≤ 8) (lw : ls.length = K) (hl : ∀ l ∈ ls, l.length = n) (hn : n ≤ 1048576) :
    call code (k + 6) 70 [.agg [.int .i64 K, .int .i64 M], .rd true (rowsS ls)] [] = some ⟨.sl 0 0 0 [] 0 (K + M), [⟨0, 1, false, true, rowsS (pcs (gN K M) (K + M) K ls n)⟩], []⟩ := by
  refine call_run rfl fn70 rfl ?_
  have hg := fun k => generator k K M hK hM
  have hp := fun k => pieces k (K + M) K (gN K M) ls n hM ⟨hK, by omega⟩ gN_len (gN_lt hM) lw hl hn
  have hc := gN_cast hM
  rw [hc] at hp
  have hln : (gz K M 0).length = (K + M) * K := by rw [gz_len, Nat.add_mul]; omega
  have hrl : (rowsZ (gz K M 0)).length = (gz K M 0).length := rowsZ_len _
  have htk : (rowsZ (gz K M 0)).take (gz K M 0).length = rowsZ (gz K M 0) := by rw [← hrl, List.take_length]
  generalize hkm : K + M = km at *
  simp [F70, rcall31, hg, rcall84, htk, hrl, hp]
theorem scale_mul {i n K : Nat} (h : i < K) (hn : n * K ≤ 1048576) : (i + 1) * n ≤ n * K := by
  rw [Nat.mul_comm n K]; exact Nat.mul_le_mul_right _ h
set_option maxHeartbeats 4000000 in
theorem shards (k : Nat) (K M : Nat) (l : List UInt8) (hK : 1 ≤ K) (hM : K + M ≤ 8) (hl : l.length ≤ 4096) :
    call code (k + 7) 50 [.agg [.int .i64 K, .int .i64 M], .str (B l)] [] = some ⟨.sl 0 0 0 [] 0 (K + M), [⟨0, 1, false, true, rowsS (shs K M l)⟩], []⟩ := by
  refine call_run rfl fn50 rfl ?_
  have hp := fun k => piece k K l.length M ⟨hK, by omega⟩ (by omega)
  obtain ⟨p1, p2⟩ := psz_le (n := l.length) hK
  have hpad := pad_len (l := l) hK
  have hpk : psz K l.length * K ≤ 4096 * 8 := Nat.mul_le_mul (by omega) (by omega)
  have e1 : IntKind.wrap .i64 (((psz K l.length : Nat) : Int) * (K : Int)) = ((psz K l.length * K : Nat) : Int) := by rw [show ((psz K l.length : Nat) : Int) * (K : Int) = ((psz K l.length * K : Nat) : Int) by simp, wrap64 ⟨by omega, by omega⟩]
  have e2 : IntKind.wrap .i64 (((psz K l.length * K : Nat) : Int) - (l.length : Int)) = ((psz K l.length * K - l.length : Nat) : Int) := by rw [wrap64 ⟨by omega, by omega⟩]; omega
  have hz := fun k => zeros k (psz K l.length * K - l.length) (by omega)
  have happ : B l ++ B (List.replicate (psz K l.length * K - l.length) 0) = B (pad K l) := B_app _ _
  have hbig : ¬ (9223372036854775807 : Int) < (l.length : Int) + ((psz K l.length * K - l.length : Nat) : Int) := by omega
  have hcl := fun i hi => cut_len (l := l) hK (i := i) hi
  have hda := dat_app K l
  have hdl := dat_len K l
  have henc := fun k => encoded k K M (dat K l K) (psz K l.length) hK hM (dat_len _ _ _) (dat_all hK) (by omega)
  have hcut : ∀ i, (i + 1) * psz K l.length - i * psz K l.length = psz K l.length := fun i => by rw [Nat.add_mul]; omega
  unfold shs
  have hd0 : dat K l 0 = [] := rfl
  have hcd : ∀ i, cutAt (psz K l.length) (pad K l) i = ((pad K l).drop (i * psz K l.length)).take (psz K l.length) := fun i => rfl
  generalize psz K l.length = n at *
  generalize pad K l = pd at *
  generalize hnk : n * K = nk at *
  have hmx : IntKind.max .i64 = 9223372036854775807 := rfl
  simp [F50, rcall68, hp, e1, e2, rcall69, hz, happ, hmx]
  refine ⟨by omega, ?_⟩
  refine RunC_loop (fun i : Nat => ⟨tm 44 [(2, .ptr 0 0 0 [] 0 0), (5, .int .i64 n), (6, .str (B pd)), (7, .sl 0 196608 0 [] 0 i), (24, .int .i64 K), (25, .int .i64 i)], [(0, some ⟨0, 2, true, false, [[.int .i64 K, .int .i64 M]]⟩), (256, some ⟨0, 1, false, true, []⟩), (196608, some ⟨0, 1, false, true, rowsS (dat K l i)⟩)], []⟩)
    (fun i => i ≤ K) (fun i => K - i) 0 (Nat.zero_le _) (by simp; omega) (by simp [tm, hd0, rowsS]) fun i hi _ => ?_
  by_cases hlt : i < K
  · have hs := idx_succ' hlt (by omega)
    have hm1 : (i + 1) * n ≤ n * K := by rw [Nat.mul_comm n K]; exact Nat.mul_le_mul_right _ hlt
    have hm2 : i * n ≤ (i + 1) * n := Nat.mul_le_mul_right _ (by omega)
    have e3 : IntKind.wrap .i64 ((i : Int) * (n : Int)) = ((i * n : Nat) : Int) := by rw [show (i : Int) * (n : Int) = ((i * n : Nat) : Int) by simp, wrap64 ⟨by omega, by omega⟩]
    have e4 : IntKind.wrap .i64 (((i + 1 : Nat) : Int) * (n : Int)) = (((i + 1) * n : Nat) : Int) := by rw [show ((i + 1 : Nat) : Int) * (n : Int) = (((i + 1) * n : Nat) : Int) by simp, wrap64 ⟨by omega, by omega⟩]
    have hct := hcut i
    have hap := rowsS_app (dat K l i) (cutAt n pd i)
    rw [hda, hcd] at hap
    have hcc := B_cut pd (i * n) ((i + 1) * n)
    rw [hct] at hcc
    have hdi := hdl i
    rw [hnk] at hm1
    generalize hA : i * n = A at *
    generalize hBB : (i + 1) * n = C at *
    generalize hI : i + 1 = I1 at *
    simp [tm, hlt, hs, e3, e4, hpad, hm1, hm2, hcc, evalW, source, hdi, hap]
    exact ⟨by omega, I1, by omega, by omega, by simp [hI]⟩
  · have : i = K := by omega
    subst this
    have hdi := hdl i
    have htk : (rowsS (dat i l i)).take i = rowsS (dat i l i) := List.take_of_length_le (by simp [hdi])
    simp [tm, hdi, rcall70, henc, htk]
end Go.Ae.M2
