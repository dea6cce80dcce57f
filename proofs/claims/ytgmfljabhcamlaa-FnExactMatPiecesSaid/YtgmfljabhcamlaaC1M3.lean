/- A body in shards, twice told. -/
import Derived.Test.YtgmfljabhcamlaaC1M2
import Derived.Test.YtgmfljabhcamlaaAeL6
import Derived.Test.YtgmfljabhcamlaaC1Code
namespace Go.Ae.C1
set_option linter.unusedSimpArgs false
set_option linter.unusedVariables false
theorem B_app (l r : List UInt8) : B l ++ B r = B (l ++ r) := by
  simp only [B]
  apply ByteArray.ext
  simp [ByteArray.data_append]
theorem B_cut (l : List UInt8) (a b : Nat) : (B l).extract a b = B ((l.drop a).take (b - a)) := by
  apply ByteArray.ext
  simp only [ByteArray.data_extract, B]
  apply Array.ext'
  simp [List.take_drop]
  try (congr 1; omega)
def gN (k m : Nat) : List Nat := (gz k m 0).map Int.toNat
theorem uz_val {n i : Nat} {x : Int} (h : x ∈ uz n i) : x = 0 ∨ x = 1 := by
  simp only [uz, List.mem_map] at h
  obtain ⟨a, _, rfl⟩ := h
  split
  · exact .inr rfl
  · exact .inl rfl
theorem gz_val {k m : Nat} (hk : k + m ≤ 8) {x : Int} (h : x ∈ gz k m 0) : ∃ n : Nat, x = n ∧ n < 256 := by
  simp only [gz, List.mem_append, List.mem_flatMap, List.mem_map, List.mem_range] at h
  rcases h with (h | ⟨a, ha, b, hb, rfl⟩) | ⟨b, hb, _⟩
  · rcases uz_val h with rfl | rfl
    · exact ⟨0, rfl, by decide⟩
    · exact ⟨1, rfl, by decide⟩
  · exact ⟨_, rfl, gm_lt (by omega)⟩
  · omega
theorem castL_toNat : ∀ {l : List Int}, (∀ x ∈ l, ∃ n : Nat, x = n ∧ n < 256) → castL (l.map Int.toNat) = l
  | [], _ => rfl
  | x :: l, h => by
    obtain ⟨n, rfl, _⟩ := h x List.mem_cons_self
    have := castL_toNat (l := l) fun y hy => h y (List.mem_cons_of_mem _ hy)
    simp only [castL, List.map_map] at this
    simp [castL, this]
theorem gN_cast {k m : Nat} (hk : k + m ≤ 8) : castL (gN k m) = gz k m 0 := castL_toNat fun x hx => gz_val hk hx
theorem gN_lt {k m : Nat} (hk : k + m ≤ 8) : ∀ x ∈ gN k m, x < 256 := by
  intro x hx
  simp only [gN, List.mem_map] at hx
  obtain ⟨y, hy, rfl⟩ := hx
  obtain ⟨n, rfl, hn⟩ := gz_val hk hy
  simpa using hn
theorem gN_len {k m : Nat} : (gN k m).length = (k + m) * k := by
  rw [gN, List.length_map, gz_len, Nat.add_mul]; omega
def psz (K n : Nat) : Nat := (n + K - 1) / K
def pad (K : Nat) (l : List UInt8) : List UInt8 := l ++ List.replicate (psz K l.length * K - l.length) 0
def cutAt (n : Nat) (p : List UInt8) (i : Nat) : List UInt8 := (p.drop (i * n)).take n
def dat (K : Nat) (l : List UInt8) (i : Nat) : List (List UInt8) := (List.range i).map (cutAt (psz K l.length) (pad K l))
theorem psz_le {K n : Nat} (hK : 1 ≤ K) : n ≤ psz K n * K ∧ psz K n ≤ n := by
  unfold psz
  have h1 := Nat.div_add_mod (n + K - 1) K
  have h2 := Nat.mod_lt (n + K - 1) (show K > 0 by omega)
  rw [Nat.mul_comm] at h1
  refine ⟨by omega, ?_⟩
  by_cases hn : n = 0
  · subst hn
    rw [Nat.div_eq_of_lt (by omega)]; omega
  · apply Nat.div_le_of_le_mul
    have : n + K ≤ K * n + 1 := by
      obtain ⟨a, rfl⟩ : ∃ a, n = a + 1 := ⟨n - 1, by omega⟩
      obtain ⟨b, rfl⟩ : ∃ b, K = b + 1 := ⟨K - 1, by omega⟩
      rw [Nat.add_mul, Nat.mul_add]; omega
    omega
theorem pad_len {K : Nat} {l : List UInt8} (hK : 1 ≤ K) : (pad K l).length = psz K l.length * K := by
  have := (psz_le (n := l.length) hK).1
  simp [pad]; omega
theorem cut_len {K : Nat} {l : List UInt8} (hK : 1 ≤ K) {i : Nat} (hi : i < K) : (cutAt (psz K l.length) (pad K l) i).length = psz K l.length := by
  have h := pad_len (l := l) hK
  have h2 : (i + 1) * psz K l.length ≤ K * psz K l.length := Nat.mul_le_mul_right _ hi
  rw [Nat.add_mul, Nat.mul_comm K] at h2
  simp [cutAt, h]; omega
theorem dat_len (K : Nat) (l : List UInt8) (i : Nat) : (dat K l i).length = i := by simp [dat]
theorem dat_all {K : Nat} {l : List UInt8} (hK : 1 ≤ K) : ∀ x ∈ dat K l K, x.length = psz K l.length := by
  intro x hx
  simp only [dat, List.mem_map, List.mem_range] at hx
  obtain ⟨i, hi, rfl⟩ := hx
  exact cut_len hK hi
theorem dat_app (K : Nat) (l : List UInt8) (i : Nat) : dat K l i ++ [cutAt (psz K l.length) (pad K l) i] = dat K l (i + 1) := by simp [dat, List.range_succ]
/-- All shards. -/
def shs (K M : Nat) (l : List UInt8) : List (List UInt8) := pcs (gN K M) (K + M) K (dat K l K) (psz K l.length)
theorem piece (k : Nat) (K n : Nat) (M : Int) (hK : 1 ≤ K ∧ K ≤ 1000) (hn : n ≤ 1048576) : call code (k + 1) 96 [.agg [.int .i64 K, .int .i64 M], .int .i64 n] [] = some ⟨.int .i64 (psz K n : Nat), [], []⟩ := by
  refine call_run rfl fn96 rfl ?_
  have e1 : IntKind.wrap .i64 ((n : Int) + (K : Int)) = (n : Int) + K := wrap64 ⟨by omega, by omega⟩
  have e2 : IntKind.wrap .i64 ((n : Int) + (K : Int) - 1) = ((n + K - 1 : Nat) : Int) := by rw [wrap64 ⟨by omega, by omega⟩]; omega
  have e3 : ((n + K - 1 : Nat) : Int).tdiv (K : Int) = (psz K n : Nat) := rfl
  have hp := psz_le (n := n) hK.1
  have e4 : IntKind.wrap .i64 ((psz K n : Nat) : Int) = (psz K n : Nat) := wrap64 ⟨by omega, by omega⟩
  have h0 : ¬ K = 0 := by omega
  generalize psz K n = q at *
  generalize hg : n + K - 1 = g at *
  simp [F96, e1, e2, e3, e4, h0]
theorem l04Size (k : Nat) (K n : Nat) (M : Int) (hK : 1 ≤ K ∧ K ≤ 1000) (hn : n ≤ 1048576) : call code (k + 1) 148 [.agg [.int .i64 K, .int .i64 M], .int .i64 n] [] = some ⟨.int .i64 (psz K n : Nat), [], []⟩ := by
  refine call_run rfl fn148 rfl ?_
  have e1 : IntKind.wrap .i64 ((n : Int) + (K : Int)) = (n : Int) + K := wrap64 ⟨by omega, by omega⟩
  have e2 : IntKind.wrap .i64 ((n : Int) + (K : Int) - 1) = ((n + K - 1 : Nat) : Int) := by rw [wrap64 ⟨by omega, by omega⟩]; omega
  have e3 : ((n + K - 1 : Nat) : Int).tdiv (K : Int) = (psz K n : Nat) := rfl
  have hp := psz_le (n := n) hK.1
  have e4 : IntKind.wrap .i64 ((psz K n : Nat) : Int) = (psz K n : Nat) := wrap64 ⟨by omega, by omega⟩
  have h0 : ¬ K = 0 := by omega
  generalize psz K n = q at *
  generalize hg : n + K - 1 = g at *
  simp [F148, e1, e2, e3, e4, h0]
theorem encoded (k : Nat) (K M : Nat) (ls : List (List UInt8)) (n : Nat) (hK : 1 ≤ K) (hM : K + M ≤ 8) (lw : ls.length = K) (hl : ∀ l ∈ ls, l.length = n) (hn : n ≤ 1048576) :
    call code (k + 6) 102 [.agg [.int .i64 K, .int .i64 M], .rd true (rowsS ls)] [] = some ⟨.sl 0 0 0 [] 0 (K + M), [⟨0, 1, false, true, rowsS (pcs (gN K M) (K + M) K ls n)⟩], []⟩ := by
  refine call_run rfl fn102 rfl ?_
  have hg := fun k => generator k K M hK hM
  have hp := fun k => pieces k (K + M) K (gN K M) ls n hM ⟨hK, by omega⟩ gN_len (gN_lt hM) lw hl hn
  have hc := gN_cast hM
  rw [hc] at hp
  have hln : (gz K M 0).length = (K + M) * K := by rw [gz_len, Nat.add_mul]; omega
  have hrl : (rowsZ (gz K M 0)).length = (gz K M 0).length := rowsZ_len _
  have htk : (rowsZ (gz K M 0)).take (gz K M 0).length = rowsZ (gz K M 0) := by rw [← hrl, List.take_length]
  generalize hkm : K + M = km at *
  simp [F102, rcall140, hg, rcall93, htk, hrl, hp]
theorem scale_mul {i n K : Nat} (h : i < K) (hn : n * K ≤ 1048576) : (i + 1) * n ≤ n * K := by
  rw [Nat.mul_comm n K]; exact Nat.mul_le_mul_right _ h
set_option maxHeartbeats 4000000 in
theorem shards (k : Nat) (K M : Nat) (l : List UInt8) (hK : 1 ≤ K) (hM : K + M ≤ 8) (hl : l.length ≤ 4096) :
    call code (k + 7) 74 [.agg [.int .i64 K, .int .i64 M], .str (B l)] [] = some ⟨.sl 0 0 0 [] 0 (K + M), [⟨0, 1, false, true, rowsS (shs K M l)⟩], []⟩ := by
  refine call_run rfl fn74 rfl ?_
  have hp := fun k => piece k K l.length M ⟨hK, by omega⟩ (by omega)
  obtain ⟨p1, p2⟩ := psz_le (n := l.length) hK
  have hpad := pad_len (l := l) hK
  have hpk : psz K l.length * K ≤ 4096 * 8 := Nat.mul_le_mul (by omega) (by omega)
  have e1 : IntKind.wrap .i64 (((psz K l.length : Nat) : Int) * (K : Int)) = ((psz K l.length * K : Nat) : Int) := by rw [show ((psz K l.length : Nat) : Int) * (K : Int) = ((psz K l.length * K : Nat) : Int) by simp, wrap64 ⟨by omega, by omega⟩]
  have e2 : IntKind.wrap .i64 (((psz K l.length * K : Nat) : Int) - (l.length : Int)) = ((psz K l.length * K - l.length : Nat) : Int) := by rw [wrap64 ⟨by omega, by omega⟩]; omega
  have hz := fun k => zeros k (psz K l.length * K - l.length) (by omega)
  have happ : B l ++ B (List.replicate (psz K l.length * K - l.length) 0) = B (pad K l) := B_app _ _
  have hbig : ¬ (9223372036854775807 : Int) < (l.length : Int) + ((psz K l.length * K - l.length : Nat) : Int) := by omega
  have hcl := fun i hi => cut_len (l := l) hK (i := i) hi
  have hda := dat_app K l
  have hdl := dat_len K l
  have henc := fun k => encoded k K M (dat K l K) (psz K l.length) hK hM (dat_len _ _ _) (dat_all hK) (by omega)
  have hcut : ∀ i, (i + 1) * psz K l.length - i * psz K l.length = psz K l.length := fun i => by rw [Nat.add_mul]; omega
  unfold shs
  have hd0 : dat K l 0 = [] := rfl
  have hcd : ∀ i, cutAt (psz K l.length) (pad K l) i = ((pad K l).drop (i * psz K l.length)).take (psz K l.length) := fun i => rfl
  generalize psz K l.length = n at *
  generalize pad K l = pd at *
  generalize hnk : n * K = nk at *
  have hmx : IntKind.max .i64 = 9223372036854775807 := rfl
  simp [F74, rcall96, hp, e1, e2, rcall123, hz, happ, hmx]
  refine ⟨by omega, ?_⟩
  refine RunC_loop (fun i : Nat => ⟨tm 44 [(2, .ptr 0 0 0 [] 0 0), (5, .int .i64 n), (6, .str (B pd)), (7, .sl 0 196608 0 [] 0 i), (24, .int .i64 K), (25, .int .i64 i)], [(0, some ⟨0, 2, true, false, [[.int .i64 K, .int .i64 M]]⟩), (256, some ⟨0, 1, false, true, []⟩), (196608, some ⟨0, 1, false, true, rowsS (dat K l i)⟩)], []⟩)
    (fun i => i ≤ K) (fun i => K - i) 0 (Nat.zero_le _) (by simp; omega) (by simp [tm, hd0, rowsS]) fun i hi _ => ?_
  by_cases hlt : i < K
  · have hs := idx_succ' hlt (by omega)
    have hm1 : (i + 1) * n ≤ n * K := by rw [Nat.mul_comm n K]; exact Nat.mul_le_mul_right _ hlt
    have hm2 : i * n ≤ (i + 1) * n := Nat.mul_le_mul_right _ (by omega)
    have e3 : IntKind.wrap .i64 ((i : Int) * (n : Int)) = ((i * n : Nat) : Int) := by rw [show (i : Int) * (n : Int) = ((i * n : Nat) : Int) by simp, wrap64 ⟨by omega, by omega⟩]
    have e4 : IntKind.wrap .i64 (((i + 1 : Nat) : Int) * (n : Int)) = (((i + 1) * n : Nat) : Int) := by rw [show ((i + 1 : Nat) : Int) * (n : Int) = (((i + 1) * n : Nat) : Int) by simp, wrap64 ⟨by omega, by omega⟩]
    have hct := hcut i
    have hap := rowsS_app (dat K l i) (cutAt n pd i)
    rw [hda, hcd] at hap
    have hcc := B_cut pd (i * n) ((i + 1) * n)
    rw [hct] at hcc
    have hdi := hdl i
    rw [hnk] at hm1
    generalize hA : i * n = A at *
    generalize hBB : (i + 1) * n = C at *
    generalize hI : i + 1 = I1 at *
    simp [tm, hlt, hs, e3, e4, hpad, hm1, hm2, hcc, evalW, source, hdi, hap]
    exact ⟨by omega, I1, by omega, by omega, by simp [hI]⟩
  · have : i = K := by omega
    subst this
    have hdi := hdl i
    have htk : (rowsS (dat i l i)).take i = rowsS (dat i l i) := List.take_of_length_le (by simp [hdi])
    simp [tm, hdi, rcall102, henc, htk]
theorem pad_more (l : List UInt8) (j : Nat) : B (l ++ List.replicate j 0) ++ ⟨#[0]⟩ = B (l ++ List.replicate (j + 1) 0) := by
  show B (l ++ List.replicate j 0) ++ B [0] = _
  rw [B_app, List.append_assoc, List.replicate_succ']
set_option maxHeartbeats 4000000 in
theorem l04Data (k : Nat) (K M : Nat) (l : List UInt8) (hK : 1 ≤ K) (hM : K + M ≤ 8) (hl : l.length ≤ 4096) :
    call code (k + 2) 122 [.agg [.int .i64 K, .int .i64 M], .str (B l)] [] = some ⟨.sl 0 0 0 [] 0 K, [⟨0, 1, false, true, rowsS (dat K l K)⟩], []⟩ := by
  refine call_run rfl fn122 rfl ?_
  have hp := fun k => l04Size k K l.length M ⟨hK, by omega⟩ (by omega)
  obtain ⟨p1, p2⟩ := psz_le (n := l.length) hK
  have hpad := pad_len (l := l) hK
  have hpk : psz K l.length * K ≤ 4096 * 8 := Nat.mul_le_mul (by omega) (by omega)
  have e1 : IntKind.wrap .i64 (((psz K l.length : Nat) : Int) * (K : Int)) = ((psz K l.length * K : Nat) : Int) := by rw [show ((psz K l.length : Nat) : Int) * (K : Int) = ((psz K l.length * K : Nat) : Int) by simp, wrap64 ⟨by omega, by omega⟩]
  have hcl := fun i hi => cut_len (l := l) hK (i := i) hi
  have hda := dat_app K l
  have hdl := dat_len K l
  have hcut : ∀ i, (i + 1) * psz K l.length - i * psz K l.length = psz K l.length := fun i => by rw [Nat.add_mul]; omega
  have hd0 : dat K l 0 = [] := rfl
  have hcd : ∀ i, cutAt (psz K l.length) (pad K l) i = ((pad K l).drop (i * psz K l.length)).take (psz K l.length) := fun i => rfl
  have hpd : pad K l = l ++ List.replicate (psz K l.length * K - l.length) 0 := rfl
  have hmx : IntKind.max .i64 = 9223372036854775807 := rfl
  generalize psz K l.length = n at *
  generalize pad K l = pd at *
  generalize hnk : n * K = nk at *
  simp [F122, rcall148, hp]
  refine RunC_loop (fun j : Nat => ⟨tm 41 [(1, .str (B (l ++ List.replicate j 0))), (2, .ptr 0 0 0 [] 0 0), (5, .int .i64 n)], [(0, some ⟨0, 2, true, false, [[.int .i64 K, .int .i64 M]]⟩), (256, some ⟨0, 1, false, true, []⟩)], []⟩)
    (fun j => j ≤ nk - l.length) (fun j => nk - l.length - j) 0 (Nat.zero_le _) (by simp; omega) (by simp [tm]) fun j hj _ => ?_
  by_cases hlj : l.length + j < nk
  · have hpm := pad_more l j
    have hsz : ByteArray.size ⟨#[(0 : UInt8)]⟩ = 1 := rfl
    have c1 : decide ((l.length : Int) + (j : Int) < (nk : Int)) = true := by simp; omega
    simp [tm, e1, hlj, c1, hpm, hsz, hmx]
    exact ⟨by omega, j + 1, by omega, by omega, rfl⟩
  · have hjj : j = nk - l.length := by omega
    subst hjj
    have c1 : decide ((l.length : Int) + ((nk - l.length : Nat) : Int) < (nk : Int)) = false := by simp; omega
    rw [← hpd]
    simp [tm, e1, hpad]
    refine RunC_loop (fun i : Nat => ⟨tm 41 [(1, .str (B pd)), (2, .ptr 0 0 0 [] 0 0), (5, .int .i64 n), (6, .sl 0 262144 0 [] 0 i), (7, .int .i64 i)], [(0, some ⟨0, 2, true, false, [[.int .i64 K, .int .i64 M]]⟩), (256, some ⟨0, 1, false, true, []⟩), (262144, some ⟨0, 1, false, true, rowsS (dat K l i)⟩)], []⟩)
      (fun i => i ≤ K) (fun i => K - i) 0 (Nat.zero_le _) (by simp; omega) (by simp [tm, hd0, rowsS]) fun i hi _ => ?_
    by_cases hlt : i < K
    · have hs := idx_succ' hlt (by omega)
      have hm1 : (i + 1) * n ≤ n * K := by rw [Nat.mul_comm n K]; exact Nat.mul_le_mul_right _ hlt
      have hm2 : i * n ≤ (i + 1) * n := Nat.mul_le_mul_right _ (by omega)
      have e3 : IntKind.wrap .i64 ((i : Int) * (n : Int)) = ((i * n : Nat) : Int) := by rw [show (i : Int) * (n : Int) = ((i * n : Nat) : Int) by simp, wrap64 ⟨by omega, by omega⟩]
      have e4 : IntKind.wrap .i64 (((i + 1 : Nat) : Int) * (n : Int)) = (((i + 1) * n : Nat) : Int) := by rw [show ((i + 1 : Nat) : Int) * (n : Int) = (((i + 1) * n : Nat) : Int) by simp, wrap64 ⟨by omega, by omega⟩]
      have hct := hcut i
      have hap := rowsS_app (dat K l i) (cutAt n pd i)
      rw [hda, hcd] at hap
      have hcc := B_cut pd (i * n) ((i + 1) * n)
      rw [hct] at hcc
      have hdi := hdl i
      rw [hnk] at hm1
      generalize hA : i * n = A at *
      generalize hBB : (i + 1) * n = C at *
      generalize hI : i + 1 = I1 at *
      simp [tm, hlt, hs, e3, e4, hpad, hm1, hm2, hcc, evalW, source, hdi, hap]
      exact ⟨by omega, I1, by omega, by omega, by simp [hI]⟩
    · have : i = K := by omega
      subst this
      have hdi := hdl i
      simp [tm, hdi]
theorem l04Shards (k : Nat) (K M : Nat) (l : List UInt8) (hK : 1 ≤ K) (hM : K + M ≤ 8) (hl : l.length ≤ 4096) :
    call code (k + 6) 71 [.agg [.int .i64 K, .int .i64 M], .str (B l)] [] = some ⟨.sl 0 0 0 [] 0 (K + M), [⟨0, 1, false, true, rowsS (shs K M l)⟩], []⟩ := by
  refine call_run rfl fn71 rfl ?_
  have hps := (psz_le (n := l.length) hK).2
  have hg := fun k => l03Code k K M hK hM
  have hd := fun k => l04Data k K M l hK hM hl
  have hp := fun k => l03Pieces k (K + M) K (gN K M) (dat K l K) (psz K l.length) hM ⟨hK, by omega⟩ gN_len (gN_lt hM) (dat_len _ _ _) (dat_all hK) (by omega)
  rw [gN_cast hM] at hp
  have hln : (gz K M 0).length = (K + M) * K := by rw [gz_len, Nat.add_mul]; omega
  have hrl : (rowsZ (gz K M 0)).length = (gz K M 0).length := rowsZ_len _
  have htk : (rowsZ (gz K M 0)).take (gz K M 0).length = rowsZ (gz K M 0) := by rw [← hrl, List.take_length]
  have htd : (rowsS (dat K l K)).take K = rowsS (dat K l K) := List.take_of_length_le (by simp [dat_len])
  have hdl := dat_len K l K
  unfold shs
  generalize hkm : K + M = km at *
  simp [F71, rcall121, hg, rcall122, hd, rcall89, htk, hrl, htd, hdl, hp]
end Go.Ae.C1
namespace Go.Ae.C1
set_option linter.unusedSimpArgs false
set_option linter.unusedVariables false
set_option maxRecDepth 10000

structure GShard where
  Pos : Int
  Bytes : ByteArray
namespace GShard
def enc (x : GShard) : List AV := [.int .i64 x.Pos, .str x.Bytes]
def zero : GShard := ⟨0, ByteArray.empty⟩
def mkAt (c : Int) (i : Nat) : GShard := ⟨c + 2 * i, mtext (c + 2 * i + 1)⟩
def wt (x : GShard) : Nat := x.Bytes.size
/-- Numbers of 64 bits, texts of a machine's size. -/
def ok (x : GShard) : Prop := (-9223372036854775808 ≤ x.Pos ∧ x.Pos ≤ 9223372036854775807) ∧ x.Bytes.size ≤ 140737488351232
end GShard
theorem fitStringS : ∀ {xs : List (List AV)}, (∀ r ∈ xs, FitsAll [.str] r) → ∃ ws : List ByteArray, xs = rws encT ws ∧ ∀ x ∈ ws, x.size ≤ 140737488351232
  | [], _ => ⟨[], rfl, fun _ h => by cases h⟩
  | r :: xs, h => by
    have h0 := h r List.mem_cons_self
    obtain ⟨_, _, rfl, h1, h0⟩ := h0.cons_inv
    obtain rfl := h0.nil_inv
    obtain ⟨v0, rfl, w0⟩ := h1.str_inv
    obtain ⟨ws, rfl, hw⟩ := fitStringS fun x hx => h x (List.mem_cons_of_mem _ hx)
    exact ⟨v0 :: ws, rfl, fun s hs => by rcases List.mem_cons.1 hs with rfl | hs; exact w0; exact hw s hs⟩
theorem fitInt64S : ∀ {xs : List (List AV)}, (∀ r ∈ xs, FitsAll [.int .i64] r) → ∃ ws : List Int, xs = rws encI ws ∧ ∀ x ∈ ws, (-9223372036854775808 ≤ x ∧ x ≤ 9223372036854775807)
  | [], _ => ⟨[], rfl, fun _ h => by cases h⟩
  | r :: xs, h => by
    have h0 := h r List.mem_cons_self
    obtain ⟨_, _, rfl, h1, h0⟩ := h0.cons_inv
    obtain rfl := h0.nil_inv
    obtain ⟨v0, rfl, w0⟩ := h1.i64_inv
    obtain ⟨ws, rfl, hw⟩ := fitInt64S fun x hx => h x (List.mem_cons_of_mem _ hx)
    exact ⟨v0 :: ws, rfl, fun s hs => by rcases List.mem_cons.1 hs with rfl | hs; exact w0; exact hw s hs⟩
theorem fitShardS : ∀ {xs : List (List AV)}, (∀ r ∈ xs, FitsAll [.int .i64, .str] r) → ∃ ws : List GShard, xs = rws GShard.enc ws ∧ ∀ x ∈ ws, x.ok
  | [], _ => ⟨[], rfl, fun _ h => by cases h⟩
  | r :: xs, h => by
    have h0 := h r List.mem_cons_self
    obtain ⟨_, _, rfl, h1, h0⟩ := h0.cons_inv
    obtain ⟨_, _, rfl, h2, h0⟩ := h0.cons_inv
    obtain rfl := h0.nil_inv
    obtain ⟨v0, rfl, w0⟩ := h1.i64_inv
    obtain ⟨v1, rfl, w1⟩ := h2.str_inv
    obtain ⟨ws, rfl, hw⟩ := fitShardS fun x hx => h x (List.mem_cons_of_mem _ hx)
    exact ⟨⟨v0, v1⟩ :: ws, rfl, fun s hs => by rcases List.mem_cons.1 hs with rfl | hs; exact ⟨w0, w1⟩; exact hw s hs⟩
theorem markText (k : Nat) (c : Nat) (h : 1 ≤ c ∧ c ≤ 1000000000) : call code (k + 1) 75 [.int .i64 c] [] = some ⟨.str (mtext c), [], []⟩ := by
  refine call_run rfl fn75 rfl ?_
  have hd : ¬ c = 0 := by omega
  simp [F75, hd]
  refine RunC_loop (fun q : Nat × ByteArray => ⟨[.int .i64 q.1, .undef, .undef, .str q.2] ++ List.replicate 16 .undef, [], []⟩)
    (fun q => q.2.size + q.1 ≤ 1000000000 ∧ mdig q.1 q.2 = mdig c ByteArray.empty) (fun q => q.1) (c, ByteArray.empty) ⟨by simp; omega, rfl⟩ (by simp; omega) (by simp) fun q hq _ => ?_
  obtain ⟨n, t⟩ := q
  obtain ⟨h1, h2⟩ := hq
  simp only at h1 h2
  rw [mdig] at h2
  by_cases h0 : n = 0
  · subst h0
    simp at h2
    subst h2
    have hz : (mdig c ByteArray.empty).size ≤ 1000000000 := by omega
    simp [mtext]
    have : ByteArray.size ⟨#[109]⟩ = 1 := rfl
    omega
  · rw [dif_neg h0] at h2
    have hgt : 0 < n := by omega
    have e1 : (n : Int).tmod 10 = ((n % 10 : Nat) : Int) := rfl
    have e2 : (n : Int).tdiv 10 = ((n / 10 : Nat) : Int) := rfl
    have e3 : IntKind.wrap .i64 (48 + ((n % 10 : Nat) : Int)) = 48 + ((n % 10 : Nat) : Int) := wrap64 ⟨by omega, by omega⟩
    have e4 : IntKind.wrap .u8 (48 + ((n % 10 : Nat) : Int)) = 48 + ((n % 10 : Nat) : Int) := by
      simp only [IntKind.wrap, IntKind.signed, IntKind.bits, IntKind.min, IntKind.max]
      simp
      omega
    have e5 : IntKind.wrap .i64 ((n / 10 : Nat) : Int) = ((n / 10 : Nat) : Int) := wrap64 ⟨by omega, by omega⟩
    have hb : bytesOf [[AV.int .u8 (48 + ((n % 10 : Nat) : Int))]] = some [UInt8.ofNat (48 + n % 10)] := by
      simp only [bytesOf]
      rw [show (48 + ((n % 10 : Nat) : Int)).toNat = 48 + n % 10 by omega]
    have hsz : (dig n).size = 1 := rfl
    have hds : ByteArray.mk #[48 + UInt8.ofNat (n % 10)] = dig n := by unfold dig; rw [UInt8.ofNat_add]; rfl
    generalize hm : n % 10 = m at *
    generalize hq : n / 10 = q at *
    simp [hgt, e1, e2, e3, e4, e5, hb, hds, hsz]
    exact ⟨by omega, q, dig n ++ t, ⟨by rw [ByteArray.size_append, hsz]; omega, h2⟩, by omega, rfl, rfl⟩
theorem markTextI (k : Nat) (c : Int) (h : 1 ≤ c ∧ c ≤ 1000000000) : call code (k + 1) 75 [.int .i64 c] [] = some ⟨.str (mtext c), [], []⟩ := by
  obtain ⟨n, rfl⟩ : ∃ n : Nat, c = n := ⟨c.toNat, by omega⟩
  exact markText k n (by omega)
theorem toCode (k : Nat) (v0 : Int) (v1 : Int)  : call code (k + 1) 16 [.agg [.int .i64 v0, .int .i64 v1]] [] = some ⟨.agg [.int .i64 v0, .int .i64 v1], [], []⟩ := by
  refine call_run rfl fn16 rfl ?_
  simp [F16]
theorem eqStringS (k : Nat) (ws : List ByteArray) (hn : ws.length ≤ 1048576000) : call code (k + 1) 20 [.rd true (rws encT ws), .rd true (rws encT ws)] [] = some ⟨.bool true, [], []⟩ := by
  refine call_run rfl fn20 rfl ?_
  simp [F20]
  refine RunC_loop (fun i : Nat => ⟨tm 26 [(0, .rd true (rws encT ws)), (1, .rd true (rws encT ws)), (5, .int .i64 i)], [], []⟩)
    (fun i => i ≤ ws.length) (fun i => ws.length - i) 0 (Nat.zero_le _) (by simp; omega) (by simp [tm]) fun i hi _ => ?_
  by_cases hlt : i < ws.length
  · have hs := idx_succ' hlt (by omega)
    simp [tm, hlt, hs, encT]
    exact ⟨i + 1, by omega, by omega, by simp⟩
  · have : i = ws.length := by omega
    subst this
    simp [tm]
theorem szStringS (k : Nat) (l : Int) (ws : List ByteArray) (hl : 0 ≤ l ∧ l ≤ 1048576) (hn : ws.length ≤ 140737488351232) (hs : ∀ x ∈ ws, x.size ≤ 140737488351232) : call code (k + 1) 33 [.rd true (rws encT ws), .int .i64 l] [] = some ⟨.int .i64 (szV l (ws.length + wsum ByteArray.size ws)), [], []⟩ := by
  refine call_run rfl fn33 rfl ?_
  have e1 : IntKind.wrap .i64 (l - (ws.length : Int)) = l - ws.length := wrap64 ⟨by omega, by omega⟩
  cases hd : decide (l - (ws.length : Int) < 0)
  · have hd' := of_decide_eq_false hd
    rw [← szV_step (by omega)]
    simp [F33, e1, hd]
    refine RunC_loop (fun q : Nat × Int => ⟨tm 28 [(0, .rd true (rws encT ws)), (1, .int .i64 q.2), (5, .int .i64 q.1)], [], []⟩)
      (fun q => q.1 ≤ ws.length ∧ 0 ≤ q.2 ∧ q.2 ≤ l ∧ szV q.2 (wsum ByteArray.size (ws.drop q.1)) = szV (l - ws.length) (wsum ByteArray.size ws)) (fun q => ws.length - q.1) (0, l - ws.length) ⟨Nat.zero_le _, by simp; omega, by simp; omega, by simp⟩ (by simp; omega) (by simp [tm]) fun q hq _ => ?_
    obtain ⟨i, c⟩ := q
    obtain ⟨h1, h2, h3, h4⟩ := hq
    simp only at h1 h2 h3 h4
    by_cases hlt : i < ws.length
    · have hz := hs ws[i] (List.getElem_mem hlt)
      have hi := idx_succ' hlt (by omega)
      rw [wsum_drop hlt] at h4
      have e2 : IntKind.wrap .i64 (c - (ws[i].size : Int)) = c - ws[i].size := wrap64 ⟨by omega, by omega⟩
      cases hd2 : decide (c - (ws[i].size : Int) < 0)
      · have hd3 := of_decide_eq_false hd2
        rw [← szV_step (by omega)] at h4
        simp [tm, hlt, hi, encT, e2, hd2]
        exact ⟨i + 1, _, ⟨by omega, by omega, by omega, h4⟩, by omega, rfl, by simp⟩
      · have hd3 := of_decide_eq_true hd2
        rw [szV_stop (by omega)] at h4
        simp [tm, hlt, encT, e2, hd2, ← h4]
    · have : i = ws.length := by omega
      subst this
      rw [wsum_all, szV_zero h2] at h4
      simp [tm, h4]
  · rw [szV_stop (by have := of_decide_eq_true hd; omega)]
    simp [F33, e1, hd]
theorem toStringS (k : Nat) (ws : List ByteArray) (hn : ws.length ≤ 1048576) : call code (k + 1) 36 [.rd true (rws encT ws)] [] = some ⟨.sl 0 0 0 [] 0 ws.length, [⟨0, 1, false, true, rws encT ws⟩], []⟩ := by
  refine call_run rfl fn36 rfl ?_
  simp [F36, zeroRow]
  refine ⟨⟨by omega, by omega⟩, ?_⟩
  refine RunC_loop (fun i : Nat => ⟨tm 22 [(0, .rd true (rws encT ws)), (3, .sl 0 66048 0 [] 0 ws.length), (4, .int .i64 i)], [(0, some ⟨0, 1, false, true, []⟩), (66048, some ⟨0, 1, false, true, rws encT (cpy ByteArray.empty ws i)⟩)], []⟩)
    (fun i => i ≤ ws.length) (fun i => ws.length - i) 0 (Nat.zero_le _) (by simp; omega) (by simp [tm, rws_cpy, encT]) fun i hi _ => ?_
  have hcl := cpy_len (z := ByteArray.empty) hi
  by_cases hlt : i < ws.length
  · have hst : (rws encT (cpy ByteArray.empty ws i)).set i (encT ws[i]) = rws encT (cpy ByteArray.empty ws (i + 1)) := by rw [rws_set, cpy_set hlt]
    have hs := idx_succ' hlt (by omega)
    simp only [encT] at hst
    simp [tm, hlt, hcl, hst, hs, encT]
    exact ⟨i + 1, by omega, by omega, by simp, rfl⟩
  · have : i = ws.length := by omega
    subst this
    simp [tm, cpy_all]
theorem szInt64S (k : Nat) (l : Int) (ws : List Int) (hl : 0 ≤ l ∧ l ≤ 1048576) (hn : ws.length ≤ 140737488351232) : call code (k + 1) 87 [.rd true (rws encI ws), .int .i64 l] [] = some ⟨.int .i64 (szV l ws.length), [], []⟩ := by
  refine call_run rfl fn87 rfl ?_
  have e1 : IntKind.wrap .i64 (l - (ws.length : Int)) = l - ws.length := wrap64 ⟨by omega, by omega⟩
  cases hd : decide (l - (ws.length : Int) < 0)
  · rw [szV_le (by have := of_decide_eq_false hd; omega)]
    simp [F87, e1, hd]
  · rw [szV_gt (by have := of_decide_eq_true hd; omega)]
    simp [F87, e1, hd]
theorem toInt64S (k : Nat) (ws : List Int) (hn : ws.length ≤ 1048576) : call code (k + 1) 90 [.rd true (rws encI ws)] [] = some ⟨.sl 0 0 0 [] 0 ws.length, [⟨0, 1, false, true, rws encI ws⟩], []⟩ := by
  refine call_run rfl fn90 rfl ?_
  simp [F90, zeroRow]
  refine ⟨⟨by omega, by omega⟩, ?_⟩
  refine RunC_loop (fun i : Nat => ⟨tm 22 [(0, .rd true (rws encI ws)), (3, .sl 0 66048 0 [] 0 ws.length), (4, .int .i64 i)], [(0, some ⟨0, 1, false, true, []⟩), (66048, some ⟨0, 1, false, true, rws encI (cpy (0 : Int) ws i)⟩)], []⟩)
    (fun i => i ≤ ws.length) (fun i => ws.length - i) 0 (Nat.zero_le _) (by simp; omega) (by simp [tm, rws_cpy, encI]) fun i hi _ => ?_
  have hcl := cpy_len (z := (0 : Int)) hi
  by_cases hlt : i < ws.length
  · have hst : (rws encI (cpy (0 : Int) ws i)).set i (encI ws[i]) = rws encI (cpy (0 : Int) ws (i + 1)) := by rw [rws_set, cpy_set hlt]
    have hs := idx_succ' hlt (by omega)
    simp only [encI] at hst
    simp [tm, hlt, hcl, hst, hs, encI]
    exact ⟨i + 1, by omega, by omega, by simp, rfl⟩
  · have : i = ws.length := by omega
    subst this
    simp [tm, cpy_all]
theorem eqInt64S (k : Nat) (ws : List Int) (hn : ws.length ≤ 1048576000) : call code (k + 1) 94 [.rd true (rws encI ws), .rd true (rws encI ws)] [] = some ⟨.bool true, [], []⟩ := by
  refine call_run rfl fn94 rfl ?_
  simp [F94]
  refine RunC_loop (fun i : Nat => ⟨tm 26 [(0, .rd true (rws encI ws)), (1, .rd true (rws encI ws)), (5, .int .i64 i)], [], []⟩)
    (fun i => i ≤ ws.length) (fun i => ws.length - i) 0 (Nat.zero_le _) (by simp; omega) (by simp [tm]) fun i hi _ => ?_
  by_cases hlt : i < ws.length
  · have hs := idx_succ' hlt (by omega)
    simp [tm, hlt, hs, encI]
    exact ⟨i + 1, by omega, by omega, by simp⟩
  · have : i = ws.length := by omega
    subst this
    simp [tm]
set_option maxHeartbeats 4000000 in
theorem markInt64S (k lv : Nat) (E : List Heap) (S : Nat) (ws : List Int) (c : Int) (hn : ws.length ≤ 1100000) (hc : 1 ≤ c ∧ c ≤ 800000000) (hlv : lv < E.length) (hl : (hat E lv).get S = some (some ⟨0, 1, false, true, rws encI ws⟩)) :
    call code (k + 1) 95 [.sl (lv + 1) S 0 [] 0 ws.length, .int .i64 c] E = some ⟨.int .i64 (c + ws.length), [], E.modify lv fun h => hp h S (mblk encI 1 mkI c ws) ws.length⟩ := by
  refine call_run rfl fn95 rfl ?_
  simp [F95]
  refine RunC_loop (fun i : Nat => ⟨tm 19 [(0, .sl (lv + 1) S 0 [] 0 ws.length), (1, .int .i64 (c + i)), (5, .int .i64 i)], [], E.modify lv fun h => hp h S (mblk encI 1 mkI c ws) i⟩)
    (fun i => i ≤ ws.length) (fun i => ws.length - i) 0 (Nat.zero_le _) (by simp; omega) (by simp [tm, hp_zero, modify_id']) fun i hi _ => ?_
  have hg : (hp (hat E lv) S (mblk encI 1 mkI c ws) i).get S = some (some ⟨0, 1, false, true, rws encI (mix (mkI c) ws i)⟩) := hp_get (by rw [mblk_zero]; exact hl) i
  have hml := mix_len (f := mkI c) hi
  by_cases hlt : i < ws.length
  · have hs := idx_succ' hlt (by omega)
    have hset : (rws encI (mix (mkI c) ws i)).set i (encI (mkI c i)) = rws encI (mix (mkI c) ws (i + 1)) := by rw [rws_set, mix_set hlt]
    have hhs : ∀ h : Heap, (hp h S (mblk encI 1 mkI c ws) i).set S (some ⟨0, 1, false, true, rws encI (mix (mkI c) ws (i + 1))⟩) = hp h S (mblk encI 1 mkI c ws) (i + 1) := fun h => hp_set i
    have p0 : IntKind.wrap .i64 (c + (i : Int) + 1) = c + ((i + 1 : Nat) : Int) := by rw [wrap64 ⟨by omega, by omega⟩] <;> omega
    simp only [encI, mkI] at hset
    simp [tm, hlt, hg, blk_succ, heap_succ, put_succ, hat_modify, modify_modify', hlv, hml, hs, get_set, set_set_same, encI, hset, hhs, p0]
    exact ⟨i + 1, by omega, by omega, by simp⟩
  · have : i = ws.length := by omega
    subst this
    simp [tm, hg, blk_succ, hml, hat_modify, hlv]
theorem szShard_ (k : Nat) (l : Int) (v0 : Int) (v1 : ByteArray) (hl : 0 ≤ l ∧ l ≤ 1048576) (b1 : v1.size ≤ 140737488351232) : call code (k + 1) 115 [.agg [.int .i64 v0, .str v1], .int .i64 l] [] = some ⟨.int .i64 (szV l (v1.size)), [], []⟩ := by
  refine call_run rfl fn115 rfl ?_
  have e0 : IntKind.wrap .i64 (l - (v1.size : Int)) = l - v1.size := wrap64 ⟨by omega, by omega⟩
  cases d0 : decide (l - (v1.size : Int) < 0)
  rotate_left
  · have a0 := of_decide_eq_true d0
    have hr : szV l (v1.size) = -1 := szV_gt (by omega)
    rw [hr]; simp [F115, e0, d0]
  have a0 := of_decide_eq_false d0
  have hr : szV l (v1.size) = l - (v1.size : Int) := by rw [szV_le (by omega)] <;> omega
  rw [hr]; simp [F115, e0, d0]
theorem szShard (k : Nat) (l : Int) (x : GShard) (hl : 0 ≤ l ∧ l ≤ 1048576) (h : x.ok) : call code (k + 1) 115 [.agg x.enc, .int .i64 l] [] = some ⟨.int .i64 (szV l x.wt), [], []⟩ := by
  obtain ⟨v0, v1⟩ := x
  simp only [GShard.ok] at h
  exact szShard_ k l v0 v1 hl (by omega)
theorem toShard (k : Nat) (v0 : Int) (v1 : ByteArray)  : call code (k + 1) 118 [.agg [.int .i64 v0, .str v1]] [] = some ⟨.agg [.int .i64 v0, .str v1], [], []⟩ := by
  refine call_run rfl fn118 rfl ?_
  simp [F118]
theorem eqShard (k : Nat) (v0 : Int) (v1 : ByteArray)  : call code (k + 1) 119 [.agg [.int .i64 v0, .str v1], .agg [.int .i64 v0, .str v1]] [] = some ⟨.bool true, [], []⟩ := by
  refine call_run rfl fn119 rfl ?_
  simp [F119]
set_option maxHeartbeats 4000000 in
theorem markStringS (k lv : Nat) (E : List Heap) (S : Nat) (ws : List ByteArray) (c : Int) (hn : ws.length ≤ 1100000) (hc : 1 ≤ c ∧ c ≤ 800000000) (hlv : lv < E.length) (hl : (hat E lv).get S = some (some ⟨0, 1, false, true, rws encT ws⟩)) :
    call code (k + 2) 21 [.sl (lv + 1) S 0 [] 0 ws.length, .int .i64 c] E = some ⟨.int .i64 (c + ws.length), [], E.modify lv fun h => hp h S (mblk encT 1 mkT c ws) ws.length⟩ := by
  refine call_run rfl fn21 rfl ?_
  simp [F21]
  refine RunC_loop (fun i : Nat => ⟨tm 20 [(0, .sl (lv + 1) S 0 [] 0 ws.length), (1, .int .i64 (c + i)), (5, .int .i64 i)], [], E.modify lv fun h => hp h S (mblk encT 1 mkT c ws) i⟩)
    (fun i => i ≤ ws.length) (fun i => ws.length - i) 0 (Nat.zero_le _) (by simp; omega) (by simp [tm, hp_zero, modify_id']) fun i hi _ => ?_
  have hg : (hp (hat E lv) S (mblk encT 1 mkT c ws) i).get S = some (some ⟨0, 1, false, true, rws encT (mix (mkT c) ws i)⟩) := hp_get (by rw [mblk_zero]; exact hl) i
  have hml := mix_len (f := mkT c) hi
  by_cases hlt : i < ws.length
  · have hs := idx_succ' hlt (by omega)
    have hset : (rws encT (mix (mkT c) ws i)).set i (encT (mkT c i)) = rws encT (mix (mkT c) ws (i + 1)) := by rw [rws_set, mix_set hlt]
    have hhs : ∀ h : Heap, (hp h S (mblk encT 1 mkT c ws) i).set S (some ⟨0, 1, false, true, rws encT (mix (mkT c) ws (i + 1))⟩) = hp h S (mblk encT 1 mkT c ws) (i + 1) := fun h => hp_set i
    have p0 : IntKind.wrap .i64 (c + (i : Int) + 1) = c + ((i + 1 : Nat) : Int) := by rw [wrap64 ⟨by omega, by omega⟩] <;> omega
    have m0 := fun k => markTextI k (c + (i : Int)) (by omega)
    simp only [encT, mkT] at hset
    simp [tm, hlt, hg, blk_succ, heap_succ, put_succ, hat_modify, modify_modify', hlv, hml, hs, get_set, set_set_same, encT, hset, hhs, p0, m0, rcall75]
    exact ⟨i + 1, by omega, by omega, by simp⟩
  · have : i = ws.length := by omega
    subst this
    simp [tm, hg, blk_succ, hml, hat_modify, hlv]
set_option maxHeartbeats 4000000 in
theorem heldStringS (k : Nat) (n : Nat) (c : Int) (hn : n ≤ 1100000) (hc : 1 ≤ c ∧ c ≤ 800000000) : call code (k + 2) 22 [.rd true (rws encT (marks mkT c n)), .int .i64 c] [] = some ⟨.int .i64 (c + n), [], []⟩ := by
  refine call_run rfl fn22 rfl ?_
  simp [F22]
  refine RunC_loop (fun i : Nat => ⟨tm 22 [(0, .rd true (rws encT (marks mkT c n))), (1, .int .i64 (c + i)), (5, .int .i64 i)], [], []⟩)
    (fun i => i ≤ n) (fun i => n - i) 0 (Nat.zero_le _) (by simp; omega) (by simp [tm]) fun i hi _ => ?_
  by_cases hlt : i < n
  · have hs := idx_succ' hlt (by omega)
    have p0 : IntKind.wrap .i64 (c + (i : Int) + 1) = c + ((i + 1 : Nat) : Int) := by rw [wrap64 ⟨by omega, by omega⟩] <;> omega
    have m0 := fun k => markTextI k (c + (i : Int)) (by omega)
    simp [tm, hlt, hs, marks_at, encT, mkT, p0, m0, rcall75]
    exact ⟨i + 1, by omega, by omega, by simp⟩
  · have : i = n := by omega
    subst this
    simp [tm]
theorem szMatrix (k : Nat) (l : Int) (v0 : Int) (v1 : Int) (v2 : List Int) (hl : 0 ≤ l ∧ l ≤ 1048576) (b2 : v2.length ≤ 140737488351232) : call code (k + 2) 32 [.agg [.int .i64 v0, .int .i64 v1, .rd true (rws encI v2)], .int .i64 l] [] = some ⟨.int .i64 (szV l (v2.length)), [], []⟩ := by
  refine call_run rfl fn32 rfl ?_
  have e0 := fun k => szInt64S k (l) v2 ⟨by omega, by omega⟩ b2
  cases d0 : decide (szV (l) v2.length < 0)
  rotate_left
  · obtain ⟨a0, z0⟩ := szV_neg d0 (by omega)
    rw [z0] at e0
    have hr : szV l (v2.length) = -1 := szV_gt (by omega)
    rw [hr]; simp [F32, rcall87, e0]
  obtain ⟨a0, z0⟩ := szV_pos d0 (by omega)
  rw [z0] at e0 d0
  try simp only [Int.natCast_add] at e0 d0
  have hr : szV l (v2.length) = l - ((v2.length : Nat) : Int) := by rw [szV_le (by omega)] <;> omega
  rw [hr]; simp [F32, rcall87, e0, d0]
theorem toMatrix (k : Nat) (v0 : Int) (v1 : Int) (v2 : List Int) (hv2 : v2.length ≤ 1048576) : call code (k + 2) 35 [.agg [.int .i64 v0, .int .i64 v1, .rd true (rws encI v2)]] [] = some ⟨.agg [.int .i64 v0, .int .i64 v1, .sl 0 0 0 [] 0 v2.length], [⟨0, 1, false, true, rws encI v2⟩], []⟩ := by
  refine call_run rfl fn35 rfl ?_
  have q0 := fun k => toInt64S k v2 hv2
  simp [F35, rcall90, q0]
theorem eqMatrix (k : Nat) (v0 : Int) (v1 : Int) (v2 : List Int) (hv2 : v2.length ≤ 1048576000) : call code (k + 2) 38 [.agg [.int .i64 v0, .int .i64 v1, .rd true (rws encI v2)], .agg [.int .i64 v0, .int .i64 v1, .rd true (rws encI v2)]] [] = some ⟨.bool true, [], []⟩ := by
  refine call_run rfl fn38 rfl ?_
  have q0 := fun k => eqInt64S k v2 hv2
  simp [F38, rcall94, q0]
set_option maxHeartbeats 4000000 in
theorem markMatrix (k lv : Nat) (E : List Heap) (v0 : Int) (v1 : Int) (v2 : List Int) (S2 : Nat) (c : Int) (hc : 1 ≤ c ∧ c ≤ 400000000) (hlv : lv < E.length) (nv2 : v2.length ≤ 1100000) (gv2 : (hat E lv).get S2 = some (some ⟨0, 1, false, true, rws encI v2⟩))  :
    call code (k + 2) 39 [.agg [.int .i64 v0, .int .i64 v1, .sl (lv + 1) S2 0 [] 0 v2.length], .int .i64 c] E = some ⟨.int .i64 (c + v2.length), [], E.modify lv fun h => hp (h) S2 (mblk encI 1 mkI (c) v2) v2.length⟩ := by
  refine call_run rfl fn39 rfl ?_
  have q0 := fun k l0 => markInt64S k (lv + 1) (l0 :: E) S2 v2 (c) nv2 (by omega) (by simp; omega) (by simpa using gv2)
  simp [F39, rcall95, q0, modify_modify', hlv]
theorem szShardS (k : Nat) (l : Int) (ws : List GShard) (hl : 0 ≤ l ∧ l ≤ 1048576) (hn : ws.length ≤ 140737488351232) (hs : ∀ x ∈ ws, x.ok) : call code (k + 2) 64 [.rd true (rws GShard.enc ws), .int .i64 l] [] = some ⟨.int .i64 (szV l (ws.length + wsum GShard.wt ws)), [], []⟩ := by
  refine call_run rfl fn64 rfl ?_
  have e1 : IntKind.wrap .i64 (l - (ws.length : Int)) = l - ws.length := wrap64 ⟨by omega, by omega⟩
  cases hd : decide (l - (ws.length : Int) < 0)
  · have hd' := of_decide_eq_false hd
    rw [← szV_step (by omega)]
    simp [F64, e1, hd]
    refine RunC_loop (fun q : Nat × Int => ⟨tm 27 [(0, .rd true (rws GShard.enc ws)), (1, .int .i64 q.2), (5, .int .i64 q.1)], [], []⟩)
      (fun q => q.1 ≤ ws.length ∧ 0 ≤ q.2 ∧ q.2 ≤ l ∧ szV q.2 (wsum GShard.wt (ws.drop q.1)) = szV (l - ws.length) (wsum GShard.wt ws)) (fun q => ws.length - q.1) (0, l - ws.length) ⟨Nat.zero_le _, by simp; omega, by simp; omega, by simp⟩ (by simp; omega) (by simp [tm]) fun q hq _ => ?_
    obtain ⟨i, c⟩ := q
    obtain ⟨h1, h2, h3, h4⟩ := hq
    simp only at h1 h2 h3 h4
    by_cases hlt : i < ws.length
    · have hz := hs ws[i] (List.getElem_mem hlt)
      have hi := idx_succ' hlt (by omega)
      rw [wsum_drop hlt] at h4
      have hp := fun k => szShard k c ws[i] ⟨h2, by omega⟩ hz
      cases hd2 : decide (szV c (GShard.wt ws[i]) < 0)
      · obtain ⟨a1, a2⟩ := szV_pos hd2 h2
        rw [a2] at hp hd2
        rw [← szV_step a1] at h4
        simp only [GShard.enc] at hp
        simp [tm, hlt, hi, GShard.enc, rcall115, hp, hd2]
        exact ⟨i + 1, _, ⟨by omega, by omega, by omega, h4⟩, by omega, rfl, by simp⟩
      · obtain ⟨a1, a2⟩ := szV_neg hd2 h2
        rw [a2] at hp
        rw [szV_stop a1] at h4
        simp only [GShard.enc] at hp
        simp [tm, hlt, GShard.enc, rcall115, hp, ← h4]
    · have : i = ws.length := by omega
      subst this
      rw [wsum_all, szV_zero h2] at h4
      simp [tm, h4]
  · rw [szV_stop (by have := of_decide_eq_true hd; omega)]
    simp [F64, e1, hd]
theorem toShardS (k : Nat) (ws : List GShard) (hn : ws.length ≤ 1048576) : call code (k + 2) 66 [.rd true (rws GShard.enc ws)] [] = some ⟨.sl 0 0 0 [] 0 ws.length, [⟨0, 2, false, true, rws GShard.enc ws⟩], []⟩ := by
  refine call_run rfl fn66 rfl ?_
  simp [F66, zeroRow]
  refine ⟨⟨by omega, by omega⟩, ?_⟩
  refine RunC_loop (fun i : Nat => ⟨tm 23 [(0, .rd true (rws GShard.enc ws)), (3, .sl 0 66048 0 [] 0 ws.length), (4, .int .i64 i)], [(0, some ⟨0, 2, false, true, []⟩), (66048, some ⟨0, 2, false, true, rws GShard.enc (cpy GShard.zero ws i)⟩)], []⟩)
    (fun i => i ≤ ws.length) (fun i => ws.length - i) 0 (Nat.zero_le _) (by simp; omega) (by simp [tm, rws_cpy, GShard.enc, GShard.zero]) fun i hi _ => ?_
  have hcl := cpy_len (z := GShard.zero) hi
  by_cases hlt : i < ws.length
  · have hst : (rws GShard.enc (cpy GShard.zero ws i)).set i (GShard.enc ws[i]) = rws GShard.enc (cpy GShard.zero ws (i + 1)) := by rw [rws_set, cpy_set hlt]
    have hs := idx_succ' hlt (by omega)
    simp only [GShard.enc] at hst
    simp [tm, hlt, hcl, hst, hs, GShard.enc, rcall118, toShard]
    exact ⟨i + 1, by omega, by omega, by simp, rfl⟩
  · have : i = ws.length := by omega
    subst this
    simp [tm, cpy_all]
theorem eqShardS (k : Nat) (ws : List GShard) (hn : ws.length ≤ 1048576000) : call code (k + 2) 67 [.rd true (rws GShard.enc ws), .rd true (rws GShard.enc ws)] [] = some ⟨.bool true, [], []⟩ := by
  refine call_run rfl fn67 rfl ?_
  simp [F67]
  refine RunC_loop (fun i : Nat => ⟨tm 27 [(0, .rd true (rws GShard.enc ws)), (1, .rd true (rws GShard.enc ws)), (5, .int .i64 i)], [], []⟩)
    (fun i => i ≤ ws.length) (fun i => ws.length - i) 0 (Nat.zero_le _) (by simp; omega) (by simp [tm]) fun i hi _ => ?_
  by_cases hlt : i < ws.length
  · have hs := idx_succ' hlt (by omega)
    simp [tm, hlt, hs, GShard.enc, rcall119, eqShard]
    exact ⟨i + 1, by omega, by omega, by simp⟩
  · have : i = ws.length := by omega
    subst this
    simp [tm]
end Go.Ae.C1
namespace Go.Ae.C1
set_option linter.unusedSimpArgs false
set_option linter.unusedVariables false
def codeB (K M : Int) : Bool := inB K 1 4 && inB M 0 3
theorem codeOk (k : Nat) (K M : Int) : call code (k + 2) 72 [.agg [.int .i64 K, .int .i64 M]] [] = some ⟨.bool (codeB K M), [], []⟩ := by
  refine call_run rfl fn72 rfl ?_
  have h1 := fun k => between k K 1 4
  have h2 := fun k => between k M 0 3
  cases c1 : inB K 1 4
  · simp [F72, rcall78, h1, c1, codeB]
  · simp [F72, rcall78, h1, h2, c1, codeB]
theorem l04Code (k : Nat) (K M : Int) : call code (k + 2) 69 [.agg [.int .i64 K, .int .i64 M]] [] = some ⟨.bool (codeB K M), [], []⟩ := by
  refine call_run rfl fn69 rfl ?_
  have h1 := fun k => l00In k K 1 4
  have h2 := fun k => l00In k M 0 3
  cases c1 : inB K 1 4
  · simp [F69, rcall70, h1, c1, codeB]
  · simp [F69, rcall70, h1, h2, c1, codeB]
theorem codeB_nat {K M : Int} (h : codeB K M = true) : ∃ a b : Nat, K = a ∧ M = b ∧ 1 ≤ a ∧ a ≤ 4 ∧ b ≤ 3 := by
  simp [codeB, inB] at h
  exact ⟨K.toNat, M.toNat, by omega, by omega, by omega, by omega, by omega⟩
theorem size (k : Nat) (K M : Nat) (h : K ≤ 1000 ∧ M ≤ 1000) : call code (k + 1) 81 [.agg [.int .i64 K, .int .i64 M]] [] = some ⟨.int .i64 (K + M : Nat), [], []⟩ := by
  refine call_run rfl fn81 rfl ?_
  have e1 : IntKind.wrap .i64 ((K : Int) + (M : Int)) = ((K + M : Nat) : Int) := by rw [wrap64 ⟨by omega, by omega⟩]; omega
  generalize K + M = q at *
  simp [F81, e1]
theorem isPos (k : Nat) (K M : Nat) (p : Int) (h : K ≤ 1000 ∧ M ≤ 1000) : call code (k + 2) 73 [.agg [.int .i64 K, .int .i64 M], .int .i64 p] [] = some ⟨.bool (inB p 0 ((K + M : Nat) - 1)), [], []⟩ := by
  refine call_run rfl fn73 rfl ?_
  have hz := fun k => size k K M h
  have e1 : IntKind.wrap .i64 (((K + M : Nat) : Int) - 1) = ((K + M : Nat) : Int) - 1 := wrap64 ⟨by omega, by omega⟩
  have hb := fun k => between k p 0 (((K + M : Nat) : Int) - 1)
  generalize K + M = q at *
  simp [F73, rcall81, hz, e1, rcall78, hb]
theorem shs_len (K M : Nat) (l : List UInt8) : (shs K M l).length = K + M := by simp [shs, pcs_len]
/-- What both answer. -/
def SAt (K M : Int) (l : List UInt8) (p : Int) (t : List UInt8) (e : Int) : Prop :=
  (∀ n, call code (n + 9) 17 [.agg [.int .i64 K, .int .i64 M], .str (B l), .int .i64 p] [] = some ⟨.tup [.str (B t), .int .i64 e], [], []⟩) ∧
  (∀ n, call code (n + 9) 15 [.agg [.int .i64 K, .int .i64 M], .str (B l), .int .i64 p] [] = some ⟨.tup [.str (B t), .int .i64 e], [], []⟩)
theorem shardAt (K M : Int) (l : List UInt8) (p : Int) (hl : l.length ≤ 1048576) : ∃ t e, SAt K M l p t e := by
  have h0 : ByteArray.empty = B [] := rfl
  have i1 := fun k => codeOk k K M
  have s1 := fun k => l04Code k K M
  cases c1 : codeB K M
  · refine ⟨[], 1, fun n => call_run rfl fn17 rfl ?_, fun n => call_run rfl fn15 rfl ?_⟩
    · simp [F17, rcall72, i1, c1, h0]
    · simp [F15, rcall69, s1, c1, h0]
  · obtain ⟨a, b, rfl, rfl, q1, q2, q3⟩ := codeB_nat c1
    cases c2 : decide (64 < l.length)
    · have c2' := of_decide_eq_false c2
      have d2 : decide ((64 : Int) < (l.length : Int)) = false := by simp; omega
      have i2 := fun k => isPos k a b p (by omega)
      have e1 : IntKind.wrap .i64 ((a : Int) + (b : Int)) = ((a + b : Nat) : Int) := by rw [wrap64 ⟨by omega, by omega⟩]; omega
      have e2 : IntKind.wrap .i64 (((a + b : Nat) : Int) - 1) = ((a + b : Nat) : Int) - 1 := wrap64 ⟨by omega, by omega⟩
      have s2 := fun k => l00In k p 0 (((a + b : Nat) : Int) - 1)
      have ish := fun k => shards k a b l q1 (by omega) (by omega)
      have ssh := fun k => l04Shards k a b l q1 (by omega) (by omega)
      have hsl := shs_len a b l
      cases c3 : inB p 0 (((a + b : Nat) : Int) - 1)
      · refine ⟨[], 2, fun n => call_run rfl fn17 rfl ?_, fun n => call_run rfl fn15 rfl ?_⟩
        · generalize a + b = ab at *
          simp [F17, rcall72, i1, c1, h0, c2, d2, rcall73, i2, c3]
        · generalize a + b = ab at *
          simp [F15, rcall69, s1, c1, h0, c2, d2, e1, e2, rcall70, s2, c3]
      · have q4 := c3
        simp [inB] at q4
        obtain ⟨j, rfl⟩ : ∃ j : Nat, p = j := ⟨p.toNat, by omega⟩
        have hj : j < (shs a b l).length := by omega
        have hg : ∀ h, (rowsS (shs a b l))[j]'h = [.str (B (shs a b l)[j])] := fun h => rowsS_get hj h
        refine ⟨(shs a b l)[j], 0, fun n => call_run rfl fn17 rfl ?_, fun n => call_run rfl fn15 rfl ?_⟩
        · generalize a + b = ab at *
          have hj' : j < ab := by omega
          simp [F17, rcall72, i1, c1, h0, c2, d2, rcall73, i2, c3, rcall74, ish, hj', hg, hsl]
        · generalize a + b = ab at *
          have hj' : j < ab := by omega
          simp [F15, rcall69, s1, c1, h0, c2, d2, e1, e2, rcall70, s2, c3, rcall71, ssh, hj', hg, hsl]
    · have d2 : decide ((64 : Int) < (l.length : Int)) = true := by have := of_decide_eq_true c2; simp; omega
      refine ⟨[], 4, fun n => call_run rfl fn17 rfl ?_, fun n => call_run rfl fn15 rfl ?_⟩
      · simp [F17, rcall72, i1, c1, h0, c2, d2]
      · simp [F15, rcall69, s1, c1, h0, c2, d2]
theorem law3 (n : Nat) (K M : Int) (s : ByteArray) (p : Int) : call code (n + 11) 3 [.agg [.int .i64 K, .int .i64 M], .str s, .int .i64 p] [] = some ⟨.bool true, [], []⟩ := by
  refine call_run rfl fn3 rfl ?_
  obtain ⟨l, rfl⟩ : ∃ l, s = B l := ⟨_, (B_eta s).symm⟩
  cases g0 : decide ((1048576 : Int) < (l.length : Int))
  · have g0' := of_decide_eq_false g0
    obtain ⟨t, e, hi, hs⟩ := shardAt K M l p (by omega)
    have tc := fun k => toCode k K M
    simp [F3, g0, rcall16, tc, rcall15, hs, rcall17, hi]
  · simp [F3, g0]
theorem lawShardAt (avs : List AV) (h : PFitsAll [(true, [.int .i64, .int .i64]), (false, [.str]), (false, [.int .i64])] avs) : ∃ n bs e, call code n 3 avs [] = some ⟨.bool true, bs, e⟩ := by
  obtain ⟨v0, r, rfl, h0, h⟩ := h.cons_inv
  obtain ⟨v1, r, rfl, h1, h⟩ := h.cons_inv
  obtain ⟨v2, r, rfl, h2, h⟩ := h.cons_inv
  obtain rfl := h.nil_inv
  obtain ⟨cs, rfl, f0⟩ := h0.agg_inv
  obtain ⟨_, _, rfl, c0, f1⟩ := f0.cons_inv
  obtain ⟨_, _, rfl, c1, f2⟩ := f1.cons_inv
  obtain rfl := f2.nil_inv
  obtain ⟨a, rfl, _⟩ := c0.i64_inv
  obtain ⟨b, rfl, _⟩ := c1.i64_inv
  obtain ⟨s, rfl, _⟩ := h1.one_inv.str_inv
  obtain ⟨p, rfl, _⟩ := h2.one_inv.i64_inv
  exact ⟨_, _, _, law3 0 a b s p⟩
end Go.Ae.C1
namespace Go.Ae.C1
set_option linter.unusedSimpArgs false
set_option linter.unusedVariables false
def resSB (ls : List (List UInt8)) (b : Bool) : Res := ⟨.tup [.sl 0 0 0 [] 0 ls.length, .bool b], [⟨0, 1, false, true, rowsS ls⟩], []⟩
def SOf (K M : Int) (l : List UInt8) (ls : List (List UInt8)) (e : Bool) : Prop :=
  (∀ n, call code (n + 9) 19 [.agg [.int .i64 K, .int .i64 M], .str (B l)] [] = some (resSB ls e)) ∧
  (∀ n, call code (n + 9) 18 [.agg [.int .i64 K, .int .i64 M], .str (B l)] [] = some (resSB ls e))
theorem shardsOf (K M : Int) (l : List UInt8) (hl : l.length ≤ 1048576) : ∃ ls e, SOf K M l ls e ∧ ls.length ≤ 1000 := by
  have h0 : ByteArray.empty = B [] := rfl
  have r0 : rowsS [] = [] := rfl
  have i1 := fun k => codeOk k K M
  have s1 := fun k => l04Code k K M
  cases c1 : codeB K M
  · refine ⟨[], false, ⟨fun n => call_run rfl fn19 rfl ?_, fun n => call_run rfl fn18 rfl ?_⟩, by simp⟩
    · simp [F19, rcall72, i1, c1, resSB, r0]
    · simp [F18, rcall69, s1, c1, resSB, r0]
  · obtain ⟨a, b, rfl, rfl, q1, q2, q3⟩ := codeB_nat c1
    cases c2 : decide ((64 : Int) < (l.length : Int))
    · have c2' := of_decide_eq_false c2
      have ish := fun k => shards k a b l q1 (by omega) (by omega)
      have ssh := fun k => l04Shards k a b l q1 (by omega) (by omega)
      have hsl := shs_len a b l
      refine ⟨shs a b l, true, ⟨fun n => call_run rfl fn19 rfl ?_, fun n => call_run rfl fn18 rfl ?_⟩, by omega⟩
      · generalize a + b = ab at *
        simp [F19, rcall72, i1, c1, c2, rcall74, ish, resSB, hsl]
      · generalize a + b = ab at *
        simp [F18, rcall69, s1, c1, c2, rcall71, ssh, resSB, hsl]
    · refine ⟨[], false, ⟨fun n => call_run rfl fn19 rfl ?_, fun n => call_run rfl fn18 rfl ?_⟩, by simp⟩
      · simp [F19, rcall72, i1, c1, c2, resSB, r0]
      · simp [F18, rcall69, s1, c1, c2, resSB, r0]
theorem tkS (ls : List (List UInt8)) : (rowsS ls).take ls.length = rowsS ls := List.take_of_length_le (by simp)
set_option maxRecDepth 100000 in
set_option maxHeartbeats 32000000 in
theorem law4 (n : Nat) (K M : Int) (s : ByteArray) : call code (n + 11) 4 [.agg [.int .i64 K, .int .i64 M], .str s] [] = some ⟨.bool true, [], []⟩ := by
  refine call_run rfl fn4 rfl ?_
  obtain ⟨l, rfl⟩ : ∃ l, s = B l := ⟨_, (B_eta s).symm⟩
  cases g0 : decide ((1048576 : Int) < (l.length : Int))
  · have g0' := of_decide_eq_false g0
    obtain ⟨ls, e, ⟨hi, hs⟩, hb⟩ := shardsOf K M l (by omega)
    simp only [resSB] at hi hs
    have tc := fun k => toCode k K M
    have eg := fun k => eqStringS k (ls.map B) (by simp; omega)
    have m1 := fun k lv E S hlv hg => markStringS k lv E S (ls.map B) 1 (by simp; omega) (by omega) hlv hg
    have hh := fun k => heldStringS k ls.length 1 (by omega) (by omega)
    have hr : rowsS ls = rws encT (ls.map B) := rfl
    have hl1 : (ls.map B).length = ls.length := by simp
    rw [hr] at hi hs
    rw [hl1] at m1
    have hpa := fun (l : Heap) (S : Nat) (h : l.set S (some ⟨0, 1, false, true, rws encT (ls.map B)⟩) = l) => hpm_all (enc := encT) (sz := 1) (mk := mkT) (l := l) (S := S) (c := 1) (ws := ls.map B) h
    rw [hl1] at hpa
    have hln : (rws encT (ls.map B)).length = ls.length := by simp
    have htk : (rws encT (ls.map B)).take ls.length = rws encT (ls.map B) := List.take_of_length_le (by simp)
    have hln2 : (rws encT (marks mkT 1 ls.length)).length = ls.length := by simp
    have htk2 : (rws encT (marks mkT 1 ls.length)).take ls.length = rws encT (marks mkT 1 ls.length) := List.take_of_length_le (by simp)
    have d2 : decide (1 + (ls.length : Int) < 0) = false := by simp <;> omega
    generalize ls.map B = ws at *
    generalize ls.length = L at *
    simp (maxSteps := 20000000) [F4, g0, rcall16, tc, rcall18, hs, rcall19, hi, rcall20, eg, rcall21, m1, rcall22, hh, hpa, hln, htk, hln2, htk2, d2]
  · simp [F4, g0]
theorem lawShardsOf (avs : List AV) (h : PFitsAll [(true, [.int .i64, .int .i64]), (false, [.str])] avs) : ∃ n bs e, call code n 4 avs [] = some ⟨.bool true, bs, e⟩ := by
  obtain ⟨v0, r, rfl, h0, h⟩ := h.cons_inv
  obtain ⟨v1, r, rfl, h1, h⟩ := h.cons_inv
  obtain rfl := h.nil_inv
  obtain ⟨cs, rfl, f0⟩ := h0.agg_inv
  obtain ⟨_, _, rfl, c0, f1⟩ := f0.cons_inv
  obtain ⟨_, _, rfl, c1, f2⟩ := f1.cons_inv
  obtain rfl := f2.nil_inv
  obtain ⟨a, rfl, _⟩ := c0.i64_inv
  obtain ⟨b, rfl, _⟩ := c1.i64_inv
  obtain ⟨s, rfl, _⟩ := h1.one_inv.str_inv
  exact ⟨_, _, _, law4 0 a b s⟩
end Go.Ae.C1
namespace Go.Ae.C1
set_option linter.unusedSimpArgs false
set_option linter.unusedVariables false
theorem nat_of {ws : List Int} (h : ws.all elB = true) : ∃ an : List Nat, ws = castL an ∧ ∀ x ∈ an, x < 256 := by
  refine ⟨ws.map Int.toNat, ?_, fun x hx => ?_⟩
  · simp only [castL, List.map_map]
    refine (List.map_id ws).symm.trans (List.map_congr_left fun x hx => ?_)
    have := List.all_eq_true.1 h x hx
    simp [elB, inB] at this
    simp; omega
  · obtain ⟨y, hy, rfl⟩ := List.mem_map.1 hx
    have := List.all_eq_true.1 h y hy
    simp [elB, inB] at this
    omega
def bl (ws : List ByteArray) : List (List UInt8) := ws.map fun s => s.data.toList
theorem bl_rows (ws : List ByteArray) : rws encT ws = rowsS (bl ws) := by
  unfold rowsS bl
  rw [List.map_map]
  congr 1
  exact ((List.map_congr_left fun s _ => B_eta s).trans (List.map_id ws)).symm
theorem bl_len (ws : List ByteArray) : (bl ws).length = ws.length := by simp [bl]
def difB (ws : List ByteArray) (s : ByteArray) : Bool := (s.size : Int) != ((ws.headD ByteArray.empty).size : Int)
theorem headD_get {ws : List ByteArray} (h : 0 < ws.length) : ws.headD ByteArray.empty = ws[0] := by
  cases ws with
  | nil => simp at h
  | cons a r => rfl
theorem diffLen (k : Nat) (ws : List ByteArray) (s : ByteArray) (h : 0 < ws.length) : call code (k + 1) 92 [.str s, .rptr [.rd true (rws encT ws)]] [] = some ⟨.bool (difB ws s), [], []⟩ := by
  refine call_run rfl fn92 rfl ?_
  unfold difB
  rw [headD_get h]
  simp [F92, h, encT]
theorem anyDiff (k : Nat) (ws : List ByteArray) (h : 0 < ws.length) (hn : ws.length ≤ 1000000000) : call code (k + 3) 82 [.rd true (rws encT ws), .fn 92 [.rptr [.rd true (rws encT ws)]]] [] = some ⟨.bool (ws.any (difB ws)), [], []⟩ := by
  refine containsFunc_ok (c := code) (i := 127) rfl rfl rfl 2 true ws (fun st => by simp) (fun k => ?_) k
  exact indexFunc_ok (c := code) (sz := 1) (ag := false) (arg := fun s => .str s) rfl rfl 1 true ws hn rfl (fun _ => rfl) (fun _ => rfl) (fun st x => by simp) (fun h => by simp) (fun k x _ => diffLen k ws x h) k
def resSI (ls : List (List UInt8)) (e : Int) : Res := ⟨.tup [.sl 0 0 0 [] 0 ls.length, .int .i64 e], [⟨0, 1, false, true, rowsS ls⟩], []⟩
def MP (h w : Int) (zs : List Int) (ws : List ByteArray) (ls : List (List UInt8)) (e : Int) : Prop :=
  (∀ n, call code (n + 9) 37 [.agg [.int .i64 h, .int .i64 w, .rd true (rowsZ zs)], .rd true (rws encT ws)] [] = some (resSI ls e)) ∧
  (∀ n, call code (n + 9) 34 [.agg [.int .i64 h, .int .i64 w, .rd true (rowsZ zs)], .rd true (rws encT ws)] [] = some (resSI ls e))
set_option maxHeartbeats 8000000 in
theorem matPieces (h w : Int) (zs : List Int) (ws : List ByteArray) (h1 : zs.length ≤ 1048576) (h2 : ws.length ≤ 1048576) (h3 : ∀ s ∈ ws, s.size ≤ 1048576) : ∃ ls e, MP h w zs ws ls e ∧ ls.length ≤ 1000 := by
  have r0 : rowsS [] = [] := rfl
  have i1 := fun k => matrixOk k h w zs h1
  have s1 := fun k => l03OK k h w zs h1
  cases c1 : matB h w zs
  · refine ⟨[], 1, ⟨fun n => call_run rfl fn37 rfl ?_, fun n => call_run rfl fn34 rfl ?_⟩, by simp⟩
    · simp [F37, rcall91, i1, c1, resSI, r0]
    · simp [F34, rcall88, s1, c1, resSI, r0]
  · have q := c1
    simp [matB, inB] at q
    cases c2 : ((ws.length : Int) == w)
    · have c2' : ((ws.length : Int) != w) = true := by simp [bne, c2]
      refine ⟨[], 4, ⟨fun n => call_run rfl fn37 rfl ?_, fun n => call_run rfl fn34 rfl ?_⟩, by simp⟩
      · simp [F37, rcall91, i1, c1, c2', resSI, r0]
      · simp [F34, rcall88, s1, c1, c2', resSI, r0]
    · have c2' : ((ws.length : Int) != w) = false := by simp [bne, c2]
      have q2 : (ws.length : Int) = w := by simpa using c2
      have h0 : 0 < ws.length := by omega
      have ia := fun k => anyDiff k ws h0 (by omega)
      have hd := headD_get h0
      have hg0 : ∀ h, (rws encT ws)[0]'h = [.str ws[0]] := fun h => by simp [encT]
      cases c3 : ws.any (difB ws)
      · have hall : ∀ s ∈ ws, s.size = ws[0].size := fun s hs => by
          have := List.any_eq_false.1 c3 s hs
          unfold difB at this
          rw [hd] at this
          simp at this; omega
        obtain ⟨an, rfl, ha⟩ := nat_of (ws := zs) (by simp [matB] at c1; exact List.all_eq_true.2 fun x hx => c1.2 x hx)
        have hz3 := hall
        have hls : ∀ l ∈ bl ws, l.length = ws[0].size := fun l hl => by
          simp only [bl, List.mem_map] at hl
          obtain ⟨s, hs, rfl⟩ := hl
          rw [← hall s hs]; simp
        obtain ⟨hn, rfl⟩ : ∃ m : Nat, h = m := ⟨h.toNat, by omega⟩
        obtain ⟨wn, rfl⟩ : ∃ m : Nat, w = m := ⟨w.toNat, by omega⟩
        have la : an.length = hn * wn := by
          have h5 := q.1.2
          rw [castL_len] at h5
          have : ((an.length : Nat) : Int) = ((hn * wn : Nat) : Int) := by rw [h5]; simp
          omega
        have n0 := h3 ws[0] (List.getElem_mem h0)
        have ip := fun k => pieces k hn wn an (bl ws) ws[0].size (by omega) (by omega) la ha (by rw [bl_len]; omega) hls n0
        have sp := fun k => l03Pieces k hn wn an (bl ws) ws[0].size (by omega) (by omega) la ha (by rw [bl_len]; omega) hls n0
        rw [← bl_rows] at ip sp
        have hpl := pcs_len an hn wn (bl ws) ws[0].size
        refine ⟨pcs an hn wn (bl ws) ws[0].size, 0, ⟨fun n => call_run rfl fn37 rfl ?_, fun n => call_run rfl fn34 rfl ?_⟩, by omega⟩
        · simp [F37, rcall91, i1, c1, c2', rcall82, ia, c3, rcall93, ip, resSI, hpl]
        · simp [F34, rcall88, s1, c1, c2']
          refine RunC_loop (fun i : Nat => ⟨tm 37 [(1, .rd true (rws encT ws)), (2, .ptr 0 0 0 [] 0 0), (6, .int .i64 i)], [(0, some ⟨0, 3, true, false, [[.int .i64 hn, .int .i64 wn, .rd true (rowsZ (castL an))]]⟩), (256, some ⟨0, 1, false, true, []⟩)], []⟩)
            (fun i => i ≤ ws.length ∧ 1 ≤ i) (fun i => ws.length - i) 1 ⟨by omega, Nat.le_refl 1⟩ (by simp; omega) (by simp [tm]) fun i hi _ => ?_
          obtain ⟨hi, hi1⟩ := hi
          by_cases hlt : i < ws.length
          · have hs := idx_succ' hlt (by omega)
            have hsz := hall ws[i] (List.getElem_mem hlt)
            simp [tm, hlt, h0, hs, encT, hsz]
            exact ⟨i + 1, ⟨by omega, by omega⟩, by omega, by simp⟩
          · have : i = ws.length := by omega
            subst this
            simp [tm, rcall89, sp, resSI, hpl]
      · obtain ⟨s, hs, hps⟩ := List.any_eq_true.1 c3
        obtain ⟨j0, hj0, rfl⟩ := List.getElem_of_mem hs
        obtain ⟨i0, hi0, hbad, hmin⟩ : ∃ (i : Nat) (h : i < ws.length), difB ws ws[i] = true ∧ ∀ j (hj : j < i), difB ws (ws[j]'(by omega)) = false := by
          obtain ⟨n, ⟨h1, h2⟩, h3⟩ := least (p := fun i => ∃ h : i < ws.length, difB ws ws[i] = true) ⟨j0, hj0, hps⟩
          refine ⟨n, h1, h2, fun j hj => ?_⟩
          cases hb : difB ws (ws[j]'(by omega)) with
          | false => rfl
          | true => exact absurd (h3 j ⟨by omega, hb⟩) (by omega)
        have hi1 : 1 ≤ i0 := by
          rcases Nat.eq_zero_or_pos i0 with rfl | h
          · unfold difB at hbad; rw [hd] at hbad; simp at hbad
          · exact h
        unfold difB at hbad
        rw [hd] at hbad
        refine ⟨[], 2, ⟨fun n => call_run rfl fn37 rfl ?_, fun n => call_run rfl fn34 rfl ?_⟩, by simp⟩
        · simp [F37, rcall91, i1, c1, c2', rcall82, ia, c3, resSI, r0]
        · simp [F34, rcall88, s1, c1, c2']
          refine RunC_loop (fun i : Nat => ⟨tm 37 [(1, .rd true (rws encT ws)), (2, .ptr 0 0 0 [] 0 0), (6, .int .i64 i)], [(0, some ⟨0, 3, true, false, [[.int .i64 h, .int .i64 w, .rd true (rowsZ zs)]]⟩), (256, some ⟨0, 1, false, true, []⟩)], []⟩)
            (fun i => i ≤ i0 ∧ 1 ≤ i) (fun i => ws.length - i) 1 ⟨hi1, Nat.le_refl 1⟩ (by simp; omega) (by simp [tm]) fun i hi _ => ?_
          obtain ⟨hi, hi1'⟩ := hi
          have hlt : i < ws.length := by omega
          have hs := idx_succ' hlt (by omega)
          by_cases hii : i = i0
          · subst hii
            simp [tm, hlt, h0, encT, hbad, resSI, r0]
          · have hg := hmin i (by omega)
            unfold difB at hg
            rw [hd] at hg
            simp [tm, hlt, h0, hs, encT, hg]
            exact ⟨i + 1, ⟨by omega, by omega⟩, by omega, by simp⟩
end Go.Ae.C1
namespace Go.Ae.C1
set_option linter.unusedSimpArgs false
set_option linter.unusedVariables false
theorem rz (zs : List Int) : rowsZ zs = rws encI zs := rfl
theorem tkW {α : Type} {enc : α → List AV} {l : List α} {n : Nat} (h : l.length = n) : (rws enc l).take n = rws enc l := by subst h; exact rws_takeLen enc l
theorem wsum_le : ∀ {ws : List ByteArray} {s : ByteArray}, s ∈ ws → s.size ≤ wsum ByteArray.size ws
  | a :: r, s, h => by
    unfold wsum
    rw [List.map_cons, List.sum_cons]
    rcases List.mem_cons.1 h with rfl | h
    · omega
    · have := wsum_le (ws := r) h
      unfold wsum at this; omega
set_option maxRecDepth 100000 in
set_option maxHeartbeats 64000000 in
theorem law6 (n : Nat) (h w : Int) (zs : List Int) (ws : List ByteArray) (b1 : zs.length ≤ 140737488351232) (b2 : ws.length ≤ 140737488351232) (b3 : ∀ x ∈ ws, x.size ≤ 140737488351232) :
    call code (n + 11) 6 [.agg [.int .i64 h, .int .i64 w, .rd true (rws encI zs)], .rd true (rws encT ws)] [] = some ⟨.bool true, [], []⟩ := by
  refine call_run rfl fn6 rfl ?_
  have z1 := fun k => szMatrix k 1048576 h w zs (by omega) b1
  cases g1 : decide (szV 1048576 zs.length < 0)
  rotate_left
  · obtain ⟨_, e1⟩ := szV_neg g1 (by omega)
    rw [e1] at z1
    simp [F6, rcall32, z1]
  obtain ⟨a1, e1⟩ := szV_pos g1 (by omega)
  rw [e1] at z1 g1
  have z2 := fun k => szStringS k (1048576 - zs.length) ws (by omega) b2 b3
  cases g2 : decide (szV (1048576 - zs.length) (ws.length + wsum ByteArray.size ws) < 0)
  rotate_left
  · obtain ⟨_, e2⟩ := szV_neg g2 (by omega)
    rw [e2] at z2
    simp [F6, rcall32, z1, g1, rcall33, z2]
  obtain ⟨a2, e2⟩ := szV_pos g2 (by omega)
  rw [e2] at z2 g2
  have a3 : (zs.length : Int) + (ws.length : Int) ≤ 1048576 := by omega
  simp only [Int.natCast_add] at z2 g2
  obtain ⟨ls, e, ⟨hi, hs⟩, hb⟩ := matPieces h w zs ws (by omega) (by omega) (fun s hs => by have := wsum_le hs; omega)
  simp only [resSI, rz] at hi hs
  have t1 := fun k => toMatrix k h w zs (by omega)
  have t2 := fun k => toStringS k ws (by omega)
  have eg := fun k => eqStringS k (ls.map B) (by simp; omega)
  have x1 := fun k => eqMatrix k h w zs (by omega)
  have x2 := fun k => eqStringS k ws (by omega)
  have m1 := fun k lv E S hlv hg => markMatrix k lv E h w zs S 1 (by omega) hlv (by omega) hg
  have m2 := fun k lv E S hlv hg => markStringS k lv E S ws (1 + zs.length) (by omega) (by omega) hlv hg
  have m3 := fun k lv E S hlv hg => markStringS k lv E S (ls.map B) 1 (by simp; omega) (by omega) hlv hg
  have hh := fun k => heldStringS k ls.length 1 (by omega) (by omega)
  have hr : rowsS ls = rws encT (ls.map B) := rfl
  have hl1 : (ls.map B).length = ls.length := by simp
  rw [hr] at hi hs
  rw [hl1] at m3
  have hp1 := fun (l : Heap) (S : Nat) (hh : l.set S (some ⟨0, 1, false, true, rws encI zs⟩) = l) => hpm_all (enc := encI) (sz := 1) (mk := mkI) (l := l) (S := S) (c := 1) (ws := zs) hh
  have hp2 := fun (l : Heap) (S : Nat) (hh : l.set S (some ⟨0, 1, false, true, rws encT ws⟩) = l) => hpm_all (enc := encT) (sz := 1) (mk := mkT) (l := l) (S := S) (c := 1 + zs.length) (ws := ws) hh
  have hp3 := fun (l : Heap) (S : Nat) (hh : l.set S (some ⟨0, 1, false, true, rws encT (ls.map B)⟩) = l) => hpm_all (enc := encT) (sz := 1) (mk := mkT) (l := l) (S := S) (c := 1) (ws := ls.map B) hh
  rw [hl1] at hp3
  have k1 := tkW (enc := encI) (l := zs) rfl
  have k2 := tkW (enc := encT) (l := ws) rfl
  have k3 := tkW (enc := encT) hl1
  have k4 := fun c n => tkW (enc := encI) (marks_len mkI c n)
  have k5 := fun c n => tkW (enc := encT) (marks_len mkT c n)
  have d1 : decide (1 + (zs.length : Int) + (ws.length : Int) < 0) = false := by simp <;> omega
  have d2 : decide (1 + (ls.length : Int) < 0) = false := by simp <;> omega
  generalize ls.map B = us at *
  generalize ls.length = L at *
  simp (maxSteps := 20000000) [F6, rcall32, z1, g1, rcall33, z2, g2, rcall35, t1, rcall36, t2, rcall34, hs, rcall37, hi, rcall20, eg, x2, rcall38, x1, rcall39, m1, rcall21, m2, m3, rcall22, hh, hp1, hp2, hp3, hl1, k1, k2, k3, k4, k5, d1, d2]
theorem lawMatPieces (avs : List AV) (h : PFitsAll [(true, [.int .i64, .int .i64, .sl 8 [.int .i64]]), (false, [.sl 16 [.str]])] avs) : ∃ n bs e, call code n 6 avs [] = some ⟨.bool true, bs, e⟩ := by
  obtain ⟨v0, r, rfl, h0, h⟩ := h.cons_inv
  obtain ⟨v1, r, rfl, h1, h⟩ := h.cons_inv
  obtain rfl := h.nil_inv
  obtain ⟨cs, rfl, f0⟩ := h0.agg_inv
  obtain ⟨_, _, rfl, c0, f1⟩ := f0.cons_inv
  obtain ⟨_, _, rfl, c1, f2⟩ := f1.cons_inv
  obtain ⟨_, _, rfl, c2, f3⟩ := f2.cons_inv
  obtain rfl := f3.nil_inv
  obtain ⟨a, rfl, _⟩ := c0.i64_inv
  obtain ⟨b, rfl, _⟩ := c1.i64_inv
  obtain ⟨xs, rfl, hl, hr⟩ := c2.sl_inv
  obtain ⟨zs, rfl, hz⟩ := fitInt64S hr
  obtain ⟨ys, rfl, kl, kr⟩ := h1.one_inv.sl_inv
  obtain ⟨ws, rfl, hw⟩ := fitStringS kr
  rw [rws_len] at hl kl
  exact ⟨_, _, _, law6 0 a b zs ws (by omega) (by omega) hw⟩
end Go.Ae.C1
