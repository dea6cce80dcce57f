/- A body in shards, twice told. -/
import Derived.Test.YtgmfljabhcamlaaC1M
namespace Go.Ae.C1
set_option linter.unusedSimpArgs false
set_option linter.unusedVariables false
theorem B_app (l r : List UInt8) : B l ++ B r = B (l ++ r) := by
  simp only [B]
  apply ByteArray.ext
  simp [ByteArray.data_append]
theorem B_cut (l : List UInt8) (a b : Nat) : (B l).extract a b = B ((l.drop a).take (b - a)) := by
  apply ByteArray.ext
  simp only [ByteArray.data_extract, B]
  apply Array.ext'
  simp [List.take_drop]
  try (congr 1; omega)
def gN (k m : Nat) : List Nat := (gz k m 0).map Int.toNat
theorem uz_val {n i : Nat} {x : Int} (h : x ∈ uz n i) : x = 0 ∨ x = 1 := by
  simp only [uz, List.mem_map] at h
  obtain ⟨a, _, rfl⟩ := h
  split
  · exact .inr rfl
  · exact .inl rfl
theorem gz_val {k m : Nat} (hk : k + m ≤ 8) {x : Int} (h : x ∈ gz k m 0) : ∃ n : Nat, x = n ∧ n < 256 := by
  simp only [gz, List.mem_append, List.mem_flatMap, List.mem_map, List.mem_range] at h
  rcases h with (h | ⟨a, ha, b, hb, rfl⟩) | ⟨b, hb, _⟩
  · rcases uz_val h with rfl | rfl
    · exact ⟨0, rfl, by decide⟩
    · exact ⟨1, rfl, by decide⟩
  · exact ⟨_, rfl, gm_lt (by omega)⟩
  · omega
theorem castL_toNat : ∀ {l : List Int}, (∀ x ∈ l, ∃ n : Nat, x = n ∧ n < 256) → castL (l.map Int.toNat) = l
  | [], _ => rfl
  | x :: l, h => by
    obtain ⟨n, rfl, _⟩ := h x List.mem_cons_self
    have := castL_toNat (l := l) fun y hy => h y (List.mem_cons_of_mem _ hy)
    simp only [castL, List.map_map] at this
    simp [castL, this]
theorem gN_cast {k m : Nat} (hk : k + m ≤ 8) : castL (gN k m) = gz k m 0 := castL_toNat fun x hx => gz_val hk hx
theorem gN_lt {k m : Nat} (hk : k + m ≤ 8) : ∀ x ∈ gN k m, x < 256 := by
  intro x hx
  simp only [gN, List.mem_map] at hx
  obtain ⟨y, hy, rfl⟩ := hx
  obtain ⟨n, rfl, hn⟩ := gz_val hk hy
  simpa using hn
theorem gN_len {k m : Nat} : (gN k m).length = (k + m) * k := by
  rw [gN, List.length_map, gz_len, Nat.add_mul]; omega
def psz (K n : Nat) : Nat := (n + K - 1) / K
def pad (K : Nat) (l : List UInt8) : List UInt8 := l ++ List.replicate (psz K l.length * K - l.length) 0
def cutAt (n : Nat) (p : List UInt8) (i : Nat) : List UInt8 := (p.drop (i * n)).take n
def dat (K : Nat) (l : List UInt8) (i : Nat) : List (List UInt8) := (List.range i).map (cutAt (psz K l.length) (pad K l))
theorem psz_le {K n : Nat} (hK : 1 ≤ K) : n ≤ psz K n * K ∧ psz K n ≤ n := by
  unfold psz
  have h1 := Nat.div_add_mod (n + K - 1) K
  have h2 := Nat.mod_lt (n + K - 1) (show K > 0 by omega)
  rw [Nat.mul_comm] at h1
  refine ⟨by omega, ?_⟩
  by_cases hn : n = 0
  · subst hn
    rw [Nat.div_eq_of_lt (by omega)]; omega
  · apply Nat.div_le_of_le_mul
    have : n + K ≤ K * n + 1 := by
      obtain ⟨a, rfl⟩ : ∃ a, n = a + 1 := ⟨n - 1, by omega⟩
      obtain ⟨b, rfl⟩ : ∃ b, K = b + 1 := ⟨K - 1, by omega⟩
      rw [Nat.add_mul, Nat.mul_add]; omega
    omega
theorem pad_len {K : Nat} {l : List UInt8} (hK : 1 ≤ K) : (pad K l).length = psz K l.length * K := by
  have := (psz_le (n := l.length) hK).1
  simp [pad]; omega
theorem cut_len {K : Nat} {l : List UInt8} (hK : 1 ≤ K) {i : Nat} (hi : i < K) : (cutAt (psz K l.length) (pad K l) i).length = psz K l.length := by
  have h := pad_len (l := l) hK
  have h2 : (i + 1) * psz K l.length ≤ K * psz K l.length := Nat.mul_le_mul_right _ hi
  rw [Nat.add_mul, Nat.mul_comm K] at h2
  simp [cutAt, h]; omega
theorem dat_len (K : Nat) (l : List UInt8) (i : Nat) : (dat K l i).length = i := by simp [dat]
theorem dat_all {K : Nat} {l : List UInt8} (hK : 1 ≤ K) : ∀ x ∈ dat K l K, x.length = psz K l.length := by
  intro x hx
  simp only [dat, List.mem_map, List.mem_range] at hx
  obtain ⟨i, hi, rfl⟩ := hx
  exact cut_len hK hi
theorem dat_app (K : Nat) (l : List UInt8) (i : Nat) : dat K l i ++ [cutAt (psz K l.length) (pad K l) i] = dat K l (i + 1) := by simp [dat, List.range_succ]
/-- All shards. -/
def shs (K M : Nat) (l : List UInt8) : List (List UInt8) := pcs (gN K M) (K + M) K (dat K l K) (psz K l.length)
theorem piece (k : Nat) (K n : Nat) (M : Int) (hK : 1 ≤ K ∧ K ≤ 1000) (hn : n ≤ 1048576) : call code (k + 1) 96 [.agg [.int .i64 K, .int .i64 M], .int .i64 n] [] = some ⟨.int .i64 (psz K n : Nat), [], []⟩ := by
  refine call_run rfl fn96 rfl ?_
  have e1 : IntKind.wrap .i64 ((n : Int) + (K : Int)) = (n : Int) + K := wrap64 ⟨by omega, by omega⟩
  have e2 : IntKind.wrap .i64 ((n : Int) + (K : Int) - 1) = ((n + K - 1 : Nat) : Int) := by rw [wrap64 ⟨by omega, by omega⟩]; omega
  have e3 : ((n + K - 1 : Nat) : Int).tdiv (K : Int) = (psz K n : Nat) := rfl
  have hp := psz_le (n := n) hK.1
  have e4 : IntKind.wrap .i64 ((psz K n : Nat) : Int) = (psz K n : Nat) := wrap64 ⟨by omega, by omega⟩
  have h0 : ¬ K = 0 := by omega
  generalize psz K n = q at *
  generalize hg : n + K - 1 = g at *
  simp [F96, e1, e2, e3, e4, h0]
theorem l04Size (k : Nat) (K n : Nat) (M : Int) (hK : 1 ≤ K ∧ K ≤ 1000) (hn : n ≤ 1048576) : call code (k + 1) 148 [.agg [.int .i64 K, .int .i64 M], .int .i64 n] [] = some ⟨.int .i64 (psz K n : Nat), [], []⟩ := by
  refine call_run rfl fn148 rfl ?_
  have e1 : IntKind.wrap .i64 ((n : Int) + (K : Int)) = (n : Int) + K := wrap64 ⟨by omega, by omega⟩
  have e2 : IntKind.wrap .i64 ((n : Int) + (K : Int) - 1) = ((n + K - 1 : Nat) : Int) := by rw [wrap64 ⟨by omega, by omega⟩]; omega
  have e3 : ((n + K - 1 : Nat) : Int).tdiv (K : Int) = (psz K n : Nat) := rfl
  have hp := psz_le (n := n) hK.1
  have e4 : IntKind.wrap .i64 ((psz K n : Nat) : Int) = (psz K n : Nat) := wrap64 ⟨by omega, by omega⟩
  have h0 : ¬ K = 0 := by omega
  generalize psz K n = q at *
  generalize hg : n + K - 1 = g at *
  simp [F148, e1, e2, e3, e4, h0]
theorem encoded (k : Nat) (K M : Nat) (ls : List (List UInt8)) (n : Nat) (hK : 1 ≤ K) (hM : K + M ≤ 8) (lw : ls.length = K) (hl : ∀ l ∈ ls, l.length = n) (hn : n ≤ 1048576) :
    call code (k + 6) 102 [.agg [.int .i64 K, .int .i64 M], .rd true (rowsS ls)] [] = some ⟨.sl 0 0 0 [] 0 (K + M), [⟨0, 1, false, true, rowsS (pcs (gN K M) (K + M) K ls n)⟩], []⟩ := by
  refine call_run rfl fn102 rfl ?_
  have hg := fun k => generator k K M hK hM
  have hp := fun k => pieces k (K + M) K (gN K M) ls n hM ⟨hK, by omega⟩ gN_len (gN_lt hM) lw hl hn
  have hc := gN_cast hM
  rw [hc] at hp
  have hln : (gz K M 0).length = (K + M) * K := by rw [gz_len, Nat.add_mul]; omega
  have hrl : (rowsZ (gz K M 0)).length = (gz K M 0).length := rowsZ_len _
  have htk : (rowsZ (gz K M 0)).take (gz K M 0).length = rowsZ (gz K M 0) := by rw [← hrl, List.take_length]
  generalize hkm : K + M = km at *
  simp [F102, rcall140, hg, rcall93, htk, hrl, hp]
theorem scale_mul {i n K : Nat} (h : i < K) (hn : n * K ≤ 1048576) : (i + 1) * n ≤ n * K := by
  rw [Nat.mul_comm n K]; exact Nat.mul_le_mul_right _ h
set_option maxHeartbeats 4000000 in
theorem shards (k : Nat) (K M : Nat) (l : List UInt8) (hK : 1 ≤ K) (hM : K + M ≤ 8) (hl : l.length ≤ 4096) :
    call code (k + 7) 74 [.agg [.int .i64 K, .int .i64 M], .str (B l)] [] = some ⟨.sl 0 0 0 [] 0 (K + M), [⟨0, 1, false, true, rowsS (shs K M l)⟩], []⟩ := by
  refine call_run rfl fn74 rfl ?_
  have hp := fun k => piece k K l.length M ⟨hK, by omega⟩ (by omega)
  obtain ⟨p1, p2⟩ := psz_le (n := l.length) hK
  have hpad := pad_len (l := l) hK
  have hpk : psz K l.length * K ≤ 4096 * 8 := Nat.mul_le_mul (by omega) (by omega)
  have e1 : IntKind.wrap .i64 (((psz K l.length : Nat) : Int) * (K : Int)) = ((psz K l.length * K : Nat) : Int) := by rw [show ((psz K l.length : Nat) : Int) * (K : Int) = ((psz K l.length * K : Nat) : Int) by simp, wrap64 ⟨by omega, by omega⟩]
  have e2 : IntKind.wrap .i64 (((psz K l.length * K : Nat) : Int) - (l.length : Int)) = ((psz K l.length * K - l.length : Nat) : Int) := by rw [wrap64 ⟨by omega, by omega⟩]; omega
  have hz := fun k => zeros k (psz K l.length * K - l.length) (by omega)
  have happ : B l ++ B (List.replicate (psz K l.length * K - l.length) 0) = B (pad K l) := B_app _ _
  have hbig : ¬ (9223372036854775807 : Int) < (l.length : Int) + ((psz K l.length * K - l.length : Nat) : Int) := by omega
  have hcl := fun i hi => cut_len (l := l) hK (i := i) hi
  have hda := dat_app K l
  have hdl := dat_len K l
  have henc := fun k => encoded k K M (dat K l K) (psz K l.length) hK hM (dat_len _ _ _) (dat_all hK) (by omega)
  have hcut : ∀ i, (i + 1) * psz K l.length - i * psz K l.length = psz K l.length := fun i => by rw [Nat.add_mul]; omega
  unfold shs
  have hd0 : dat K l 0 = [] := rfl
  have hcd : ∀ i, cutAt (psz K l.length) (pad K l) i = ((pad K l).drop (i * psz K l.length)).take (psz K l.length) := fun i => rfl
  generalize psz K l.length = n at *
  generalize pad K l = pd at *
  generalize hnk : n * K = nk at *
  have hmx : IntKind.max .i64 = 9223372036854775807 := rfl
  simp [F74, rcall96, hp, e1, e2, rcall123, hz, happ, hmx]
  refine ⟨by omega, ?_⟩
  refine RunC_loop (fun i : Nat => ⟨tm 44 [(2, .ptr 0 0 0 [] 0 0), (5, .int .i64 n), (6, .str (B pd)), (7, .sl 0 196608 0 [] 0 i), (24, .int .i64 K), (25, .int .i64 i)], [(0, some ⟨0, 2, true, false, [[.int .i64 K, .int .i64 M]]⟩), (256, some ⟨0, 1, false, true, []⟩), (196608, some ⟨0, 1, false, true, rowsS (dat K l i)⟩)], []⟩)
    (fun i => i ≤ K) (fun i => K - i) 0 (Nat.zero_le _) (by simp; omega) (by simp [tm, hd0, rowsS]) fun i hi _ => ?_
  by_cases hlt : i < K
  · have hs := idx_succ' hlt (by omega)
    have hm1 : (i + 1) * n ≤ n * K := by rw [Nat.mul_comm n K]; exact Nat.mul_le_mul_right _ hlt
    have hm2 : i * n ≤ (i + 1) * n := Nat.mul_le_mul_right _ (by omega)
    have e3 : IntKind.wrap .i64 ((i : Int) * (n : Int)) = ((i * n : Nat) : Int) := by rw [show (i : Int) * (n : Int) = ((i * n : Nat) : Int) by simp, wrap64 ⟨by omega, by omega⟩]
    have e4 : IntKind.wrap .i64 (((i + 1 : Nat) : Int) * (n : Int)) = (((i + 1) * n : Nat) : Int) := by rw [show ((i + 1 : Nat) : Int) * (n : Int) = (((i + 1) * n : Nat) : Int) by simp, wrap64 ⟨by omega, by omega⟩]
    have hct := hcut i
    have hap := rowsS_app (dat K l i) (cutAt n pd i)
    rw [hda, hcd] at hap
    have hcc := B_cut pd (i * n) ((i + 1) * n)
    rw [hct] at hcc
    have hdi := hdl i
    rw [hnk] at hm1
    generalize hA : i * n = A at *
    generalize hBB : (i + 1) * n = C at *
    generalize hI : i + 1 = I1 at *
    simp [tm, hlt, hs, e3, e4, hpad, hm1, hm2, hcc, evalW, source, hdi, hap]
    exact ⟨by omega, I1, by omega, by omega, by simp [hI]⟩
  · have : i = K := by omega
    subst this
    have hdi := hdl i
    have htk : (rowsS (dat i l i)).take i = rowsS (dat i l i) := List.take_of_length_le (by simp [hdi])
    simp [tm, hdi, rcall102, henc, htk]
theorem pad_more (l : List UInt8) (j : Nat) : B (l ++ List.replicate j 0) ++ ⟨#[0]⟩ = B (l ++ List.replicate (j + 1) 0) := by
  show B (l ++ List.replicate j 0) ++ B [0] = _
  rw [B_app, List.append_assoc, List.replicate_succ']
set_option maxHeartbeats 4000000 in
theorem l04Data (k : Nat) (K M : Nat) (l : List UInt8) (hK : 1 ≤ K) (hM : K + M ≤ 8) (hl : l.length ≤ 4096) :
    call code (k + 2) 122 [.agg [.int .i64 K, .int .i64 M], .str (B l)] [] = some ⟨.sl 0 0 0 [] 0 K, [⟨0, 1, false, true, rowsS (dat K l K)⟩], []⟩ := by
  refine call_run rfl fn122 rfl ?_
  have hp := fun k => l04Size k K l.length M ⟨hK, by omega⟩ (by omega)
  obtain ⟨p1, p2⟩ := psz_le (n := l.length) hK
  have hpad := pad_len (l := l) hK
  have hpk : psz K l.length * K ≤ 4096 * 8 := Nat.mul_le_mul (by omega) (by omega)
  have e1 : IntKind.wrap .i64 (((psz K l.length : Nat) : Int) * (K : Int)) = ((psz K l.length * K : Nat) : Int) := by rw [show ((psz K l.length : Nat) : Int) * (K : Int) = ((psz K l.length * K : Nat) : Int) by simp, wrap64 ⟨by omega, by omega⟩]
  have hcl := fun i hi => cut_len (l := l) hK (i := i) hi
  have hda := dat_app K l
  have hdl := dat_len K l
  have hcut : ∀ i, (i + 1) * psz K l.length - i * psz K l.length = psz K l.length := fun i => by rw [Nat.add_mul]; omega
  have hd0 : dat K l 0 = [] := rfl
  have hcd : ∀ i, cutAt (psz K l.length) (pad K l) i = ((pad K l).drop (i * psz K l.length)).take (psz K l.length) := fun i => rfl
  have hpd : pad K l = l ++ List.replicate (psz K l.length * K - l.length) 0 := rfl
  have hmx : IntKind.max .i64 = 9223372036854775807 := rfl
  generalize psz K l.length = n at *
  generalize pad K l = pd at *
  generalize hnk : n * K = nk at *
  simp [F122, rcall148, hp]
  refine RunC_loop (fun j : Nat => ⟨tm 41 [(1, .str (B (l ++ List.replicate j 0))), (2, .ptr 0 0 0 [] 0 0), (5, .int .i64 n)], [(0, some ⟨0, 2, true, false, [[.int .i64 K, .int .i64 M]]⟩), (256, some ⟨0, 1, false, true, []⟩)], []⟩)
    (fun j => j ≤ nk - l.length) (fun j => nk - l.length - j) 0 (Nat.zero_le _) (by simp; omega) (by simp [tm]) fun j hj _ => ?_
  by_cases hlj : l.length + j < nk
  · have hpm := pad_more l j
    have hsz : ByteArray.size ⟨#[(0 : UInt8)]⟩ = 1 := rfl
    have c1 : decide ((l.length : Int) + (j : Int) < (nk : Int)) = true := by simp; omega
    simp [tm, e1, hlj, c1, hpm, hsz, hmx]
    exact ⟨by omega, j + 1, by omega, by omega, rfl⟩
  · have hjj : j = nk - l.length := by omega
    subst hjj
    have c1 : decide ((l.length : Int) + ((nk - l.length : Nat) : Int) < (nk : Int)) = false := by simp; omega
    rw [← hpd]
    simp [tm, e1, hpad]
    refine RunC_loop (fun i : Nat => ⟨tm 41 [(1, .str (B pd)), (2, .ptr 0 0 0 [] 0 0), (5, .int .i64 n), (6, .sl 0 262144 0 [] 0 i), (7, .int .i64 i)], [(0, some ⟨0, 2, true, false, [[.int .i64 K, .int .i64 M]]⟩), (256, some ⟨0, 1, false, true, []⟩), (262144, some ⟨0, 1, false, true, rowsS (dat K l i)⟩)], []⟩)
      (fun i => i ≤ K) (fun i => K - i) 0 (Nat.zero_le _) (by simp; omega) (by simp [tm, hd0, rowsS]) fun i hi _ => ?_
    by_cases hlt : i < K
    · have hs := idx_succ' hlt (by omega)
      have hm1 : (i + 1) * n ≤ n * K := by rw [Nat.mul_comm n K]; exact Nat.mul_le_mul_right _ hlt
      have hm2 : i * n ≤ (i + 1) * n := Nat.mul_le_mul_right _ (by omega)
      have e3 : IntKind.wrap .i64 ((i : Int) * (n : Int)) = ((i * n : Nat) : Int) := by rw [show (i : Int) * (n : Int) = ((i * n : Nat) : Int) by simp, wrap64 ⟨by omega, by omega⟩]
      have e4 : IntKind.wrap .i64 (((i + 1 : Nat) : Int) * (n : Int)) = (((i + 1) * n : Nat) : Int) := by rw [show ((i + 1 : Nat) : Int) * (n : Int) = (((i + 1) * n : Nat) : Int) by simp, wrap64 ⟨by omega, by omega⟩]
      have hct := hcut i
      have hap := rowsS_app (dat K l i) (cutAt n pd i)
      rw [hda, hcd] at hap
      have hcc := B_cut pd (i * n) ((i + 1) * n)
      rw [hct] at hcc
      have hdi := hdl i
      rw [hnk] at hm1
      generalize hA : i * n = A at *
      generalize hBB : (i + 1) * n = C at *
      generalize hI : i + 1 = I1 at *
      simp [tm, hlt, hs, e3, e4, hpad, hm1, hm2, hcc, evalW, source, hdi, hap]
      exact ⟨by omega, I1, by omega, by omega, by simp [hI]⟩
    · have : i = K := by omega
      subst this
      have hdi := hdl i
      simp [tm, hdi]
theorem l04Shards (k : Nat) (K M : Nat) (l : List UInt8) (hK : 1 ≤ K) (hM : K + M ≤ 8) (hl : l.length ≤ 4096) :
    call code (k + 6) 71 [.agg [.int .i64 K, .int .i64 M], .str (B l)] [] = some ⟨.sl 0 0 0 [] 0 (K + M), [⟨0, 1, false, true, rowsS (shs K M l)⟩], []⟩ := by
  refine call_run rfl fn71 rfl ?_
  have hps := (psz_le (n := l.length) hK).2
  have hg := fun k => l03Code k K M hK hM
  have hd := fun k => l04Data k K M l hK hM hl
  have hp := fun k => l03Pieces k (K + M) K (gN K M) (dat K l K) (psz K l.length) hM ⟨hK, by omega⟩ gN_len (gN_lt hM) (dat_len _ _ _) (dat_all hK) (by omega)
  rw [gN_cast hM] at hp
  have hln : (gz K M 0).length = (K + M) * K := by rw [gz_len, Nat.add_mul]; omega
  have hrl : (rowsZ (gz K M 0)).length = (gz K M 0).length := rowsZ_len _
  have htk : (rowsZ (gz K M 0)).take (gz K M 0).length = rowsZ (gz K M 0) := by rw [← hrl, List.take_length]
  have htd : (rowsS (dat K l K)).take K = rowsS (dat K l K) := List.take_of_length_le (by simp [dat_len])
  have hdl := dat_len K l K
  unfold shs
  generalize hkm : K + M = km at *
  simp [F71, rcall121, hg, rcall122, hd, rcall89, htk, hrl, htd, hdl, hp]
end Go.Ae.C1
