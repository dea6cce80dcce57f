/- A body in shards, twice told. -/
import Derived.Test.YtnfghcflpnlbiaaC3M2
import Derived.Test.YtnfghcflpnlbiaaAeL6
import Derived.Test.YtnfghcflpnlbiaaC3Code
namespace Go.Ae.C3
set_option linter.unusedSimpArgs false
set_option linter.unusedVariables false
theorem B_app (l r : List UInt8) : B l ++ B r = B (l ++ r) := by
  simp only [B]
  apply ByteArray.ext
  simp [ByteArray.data_append]
theorem B_cut (l : List UInt8) (a b : Nat) : (B l).extract a b = B ((l.drop a).take (b - a)) := by
  apply ByteArray.ext
  simp only [ByteArray.data_extract, B]
  apply Array.ext'
  simp [List.take_drop]
  try (congr 1; omega)
def gN (k m : Nat) : List Nat := (gz k m 0).map Int.toNat
theorem uz_val {n i : Nat} {x : Int} (h : x ∈ uz n i) : x = 0 ∨ x = 1 := by
  simp only [uz, List.mem_map] at h
  obtain ⟨a, _, rfl⟩ := h
  split
  · exact .inr rfl
  · exact .inl rfl
theorem gz_val {k m : Nat} (hk : k + m ≤ 8) {x : Int} (h : x ∈ gz k m 0) : ∃ n : Nat, x = n ∧ n < 256 := by
  simp only [gz, List.mem_append, List.mem_flatMap, List.mem_map, List.mem_range] at h
  rcases h with (h | ⟨a, ha, b, hb, rfl⟩) | ⟨b, hb, _⟩
  · rcases uz_val h with rfl | rfl
    · exact ⟨0, rfl, by decide⟩
    · exact ⟨1, rfl, by decide⟩
  · exact ⟨_, rfl, gm_lt (by omega)⟩
  · omega
theorem castL_toNat : ∀ {l : List Int}, (∀ x ∈ l, ∃ n : Nat, x = n ∧ n < 256) → castL (l.map Int.toNat) = l
  | [], _ => rfl
  | x :: l, h => by
    obtain ⟨n, rfl, _⟩ := h x List.mem_cons_self
    have := castL_toNat (l := l) fun y hy => h y (List.mem_cons_of_mem _ hy)
    simp only [castL, List.map_map] at this
    simp [castL, this]
theorem gN_cast {k m : Nat} (hk : k + m ≤ 8) : castL (gN k m) = gz k m 0 := castL_toNat fun x hx => gz_val hk hx
theorem gN_lt {k m : Nat} (hk : k + m ≤ 8) : ∀ x ∈ gN k m, x < 256 := by
  intro x hx
  simp only [gN, List.mem_map] at hx
  obtain ⟨y, hy, rfl⟩ := hx
  obtain ⟨n, rfl, hn⟩ := gz_val hk hy
  simpa using hn
theorem gN_len {k m : Nat} : (gN k m).length = (k + m) * k := by
  rw [gN, List.length_map, gz_len, Nat.add_mul]; omega
def psz (K n : Nat) : Nat := (n + K - 1) / K
def pad (K : Nat) (l : List UInt8) : List UInt8 := l ++ List.replicate (psz K l.length * K - l.length) 0
def cutAt (n : Nat) (p : List UInt8) (i : Nat) : List UInt8 := (p.drop (i * n)).take n
def dat (K : Nat) (l : List UInt8) (i : Nat) : List (List UInt8) := (List.range i).map (cutAt (psz K l.length) (pad K l))
theorem psz_le {K n : Nat} (hK : 1 ≤ K) : n ≤ psz K n * K ∧ psz K n ≤ n := by
  unfold psz
  have h1 := Nat.div_add_mod (n + K - 1) K
  have h2 := Nat.mod_lt (n + K - 1) (show K > 0 by omega)
  rw [Nat.mul_comm] at h1
  refine ⟨by omega, ?_⟩
  by_cases hn : n = 0
  · subst hn
    rw [Nat.div_eq_of_lt (by omega)]; omega
  · apply Nat.div_le_of_le_mul
    have : n + K ≤ K * n + 1 := by
      obtain ⟨a, rfl⟩ : ∃ a, n = a + 1 := ⟨n - 1, by omega⟩
      obtain ⟨b, rfl⟩ : ∃ b, K = b + 1 := ⟨K - 1, by omega⟩
      rw [Nat.add_mul, Nat.mul_add]; omega
    omega
theorem pad_len {K : Nat} {l : List UInt8} (hK : 1 ≤ K) : (pad K l).length = psz K l.length * K := by
  have := (psz_le (n := l.length) hK).1
  simp [pad]; omega
theorem cut_len {K : Nat} {l : List UInt8} (hK : 1 ≤ K) {i : Nat} (hi : i < K) : (cutAt (psz K l.length) (pad K l) i).length = psz K l.length := by
  have h := pad_len (l := l) hK
  have h2 : (i + 1) * psz K l.length ≤ K * psz K l.length := Nat.mul_le_mul_right _ hi
  rw [Nat.add_mul, Nat.mul_comm K] at h2
  simp [cutAt, h]; omega
theorem dat_len (K : Nat) (l : List UInt8) (i : Nat) : (dat K l i).length = i := by simp [dat]
theorem dat_all {K : Nat} {l : List UInt8} (hK : 1 ≤ K) : ∀ x ∈ dat K l K, x.length = psz K l.length := by
  intro x hx
  simp only [dat, List.mem_map, List.mem_range] at hx
  obtain ⟨i, hi, rfl⟩ := hx
  exact cut_len hK hi
theorem dat_app (K : Nat) (l : List UInt8) (i : Nat) : dat K l i ++ [cutAt (psz K l.length) (pad K l) i] = dat K l (i + 1) := by simp [dat, List.range_succ]
/-- All shards. -/
def shs (K M : Nat) (l : List UInt8) : List (List UInt8) := pcs (gN K M) (K + M) K (dat K l K) (psz K l.length)
theorem piece (k : Nat) (K n : Nat) (M : Int) (hK : 1 ≤ K ∧ K ≤ 1000) (hn : n ≤ 1048576) : call code (k + 1) 87 [.agg [.int .i64 K, .int .i64 M], .int .i64 n] [] = some ⟨.int .i64 (psz K n : Nat), [], []⟩ := by
  refine call_run rfl fn87 rfl ?_
  have e1 : IntKind.wrap .i64 ((n : Int) + (K : Int)) = (n : Int) + K := wrap64 ⟨by omega, by omega⟩
  have e2 : IntKind.wrap .i64 ((n : Int) + (K : Int) - 1) = ((n + K - 1 : Nat) : Int) := by rw [wrap64 ⟨by omega, by omega⟩]; omega
  have e3 : ((n + K - 1 : Nat) : Int).tdiv (K : Int) = (psz K n : Nat) := rfl
  have hp := psz_le (n := n) hK.1
  have e4 : IntKind.wrap .i64 ((psz K n : Nat) : Int) = (psz K n : Nat) := wrap64 ⟨by omega, by omega⟩
  have h0 : ¬ K = 0 := by omega
  generalize psz K n = q at *
  generalize hg : n + K - 1 = g at *
  simp [F87, e1, e2, e3, e4, h0]
theorem l04Size (k : Nat) (K n : Nat) (M : Int) (hK : 1 ≤ K ∧ K ≤ 1000) (hn : n ≤ 1048576) : call code (k + 1) 123 [.agg [.int .i64 K, .int .i64 M], .int .i64 n] [] = some ⟨.int .i64 (psz K n : Nat), [], []⟩ := by
  refine call_run rfl fn123 rfl ?_
  have e1 : IntKind.wrap .i64 ((n : Int) + (K : Int)) = (n : Int) + K := wrap64 ⟨by omega, by omega⟩
  have e2 : IntKind.wrap .i64 ((n : Int) + (K : Int) - 1) = ((n + K - 1 : Nat) : Int) := by rw [wrap64 ⟨by omega, by omega⟩]; omega
  have e3 : ((n + K - 1 : Nat) : Int).tdiv (K : Int) = (psz K n : Nat) := rfl
  have hp := psz_le (n := n) hK.1
  have e4 : IntKind.wrap .i64 ((psz K n : Nat) : Int) = (psz K n : Nat) := wrap64 ⟨by omega, by omega⟩
  have h0 : ¬ K = 0 := by omega
  generalize psz K n = q at *
  generalize hg : n + K - 1 = g at *
  simp [F123, e1, e2, e3, e4, h0]
theorem encoded (k : Nat) (K M : Nat) (ls : List (List UInt8)) (n : Nat) (hK : 1 ≤ K) (hM : K + M ≤ 8) (lw : ls.length = K) (hl : ∀ l ∈ ls, l.length = n) (hn : n ≤ 1048576) :
    call code (k + 6) 80 [.agg [.int .i64 K, .int .i64 M], .rd true (rowsS ls)] [] = some ⟨.sl 0 0 0 [] 0 (K + M), [⟨0, 1, false, true, rowsS (pcs (gN K M) (K + M) K ls n)⟩], []⟩ := by
  refine call_run rfl fn80 rfl ?_
  have hg := fun k => generator k K M hK hM
  have hp := fun k => pieces k (K + M) K (gN K M) ls n hM ⟨hK, by omega⟩ gN_len (gN_lt hM) lw hl hn
  have hc := gN_cast hM
  rw [hc] at hp
  have hln : (gz K M 0).length = (K + M) * K := by rw [gz_len, Nat.add_mul]; omega
  have hrl : (rowsZ (gz K M 0)).length = (gz K M 0).length := rowsZ_len _
  have htk : (rowsZ (gz K M 0)).take (gz K M 0).length = rowsZ (gz K M 0) := by rw [← hrl, List.take_length]
  generalize hkm : K + M = km at *
  simp [F80, rcall129, hg, rcall131, htk, hrl, hp]
theorem scale_mul {i n K : Nat} (h : i < K) (hn : n * K ≤ 1048576) : (i + 1) * n ≤ n * K := by
  rw [Nat.mul_comm n K]; exact Nat.mul_le_mul_right _ h
set_option maxHeartbeats 4000000 in
theorem shards (k : Nat) (K M : Nat) (l : List UInt8) (hK : 1 ≤ K) (hM : K + M ≤ 8) (hl : l.length ≤ 4096) :
    call code (k + 7) 85 [.agg [.int .i64 K, .int .i64 M], .str (B l)] [] = some ⟨.sl 0 0 0 [] 0 (K + M), [⟨0, 1, false, true, rowsS (shs K M l)⟩], []⟩ := by
  refine call_run rfl fn85 rfl ?_
  have hp := fun k => piece k K l.length M ⟨hK, by omega⟩ (by omega)
  obtain ⟨p1, p2⟩ := psz_le (n := l.length) hK
  have hpad := pad_len (l := l) hK
  have hpk : psz K l.length * K ≤ 4096 * 8 := Nat.mul_le_mul (by omega) (by omega)
  have e1 : IntKind.wrap .i64 (((psz K l.length : Nat) : Int) * (K : Int)) = ((psz K l.length * K : Nat) : Int) := by rw [show ((psz K l.length : Nat) : Int) * (K : Int) = ((psz K l.length * K : Nat) : Int) by simp, wrap64 ⟨by omega, by omega⟩]
  have e2 : IntKind.wrap .i64 (((psz K l.length * K : Nat) : Int) - (l.length : Int)) = ((psz K l.length * K - l.length : Nat) : Int) := by rw [wrap64 ⟨by omega, by omega⟩]; omega
  have hz := fun k => zeros k (psz K l.length * K - l.length) (by omega)
  have happ : B l ++ B (List.replicate (psz K l.length * K - l.length) 0) = B (pad K l) := B_app _ _
  have hbig : ¬ (9223372036854775807 : Int) < (l.length : Int) + ((psz K l.length * K - l.length : Nat) : Int) := by omega
  have hcl := fun i hi => cut_len (l := l) hK (i := i) hi
  have hda := dat_app K l
  have hdl := dat_len K l
  have henc := fun k => encoded k K M (dat K l K) (psz K l.length) hK hM (dat_len _ _ _) (dat_all hK) (by omega)
  have hcut : ∀ i, (i + 1) * psz K l.length - i * psz K l.length = psz K l.length := fun i => by rw [Nat.add_mul]; omega
  unfold shs
  have hd0 : dat K l 0 = [] := rfl
  have hcd : ∀ i, cutAt (psz K l.length) (pad K l) i = ((pad K l).drop (i * psz K l.length)).take (psz K l.length) := fun i => rfl
  generalize psz K l.length = n at *
  generalize pad K l = pd at *
  generalize hnk : n * K = nk at *
  have hmx : IntKind.max .i64 = 9223372036854775807 := rfl
  simp [F85, rcall87, hp, e1, e2, rcall135, hz, happ, hmx]
  refine ⟨by omega, ?_⟩
  refine RunC_loop (fun i : Nat => ⟨tm 44 [(2, .ptr 0 0 0 [] 0 0), (5, .int .i64 n), (6, .str (B pd)), (7, .sl 0 196608 0 [] 0 i), (24, .int .i64 K), (25, .int .i64 i)], [(0, some ⟨0, 2, true, false, [[.int .i64 K, .int .i64 M]]⟩), (256, some ⟨0, 1, false, true, []⟩), (196608, some ⟨0, 1, false, true, rowsS (dat K l i)⟩)], []⟩)
    (fun i => i ≤ K) (fun i => K - i) 0 (Nat.zero_le _) (by simp; omega) (by simp [tm, hd0, rowsS]) fun i hi _ => ?_
  by_cases hlt : i < K
  · have hs := idx_succ' hlt (by omega)
    have hm1 : (i + 1) * n ≤ n * K := by rw [Nat.mul_comm n K]; exact Nat.mul_le_mul_right _ hlt
    have hm2 : i * n ≤ (i + 1) * n := Nat.mul_le_mul_right _ (by omega)
    have e3 : IntKind.wrap .i64 ((i : Int) * (n : Int)) = ((i * n : Nat) : Int) := by rw [show (i : Int) * (n : Int) = ((i * n : Nat) : Int) by simp, wrap64 ⟨by omega, by omega⟩]
    have e4 : IntKind.wrap .i64 (((i + 1 : Nat) : Int) * (n : Int)) = (((i + 1) * n : Nat) : Int) := by rw [show ((i + 1 : Nat) : Int) * (n : Int) = (((i + 1) * n : Nat) : Int) by simp, wrap64 ⟨by omega, by omega⟩]
    have hct := hcut i
    have hap := rowsS_app (dat K l i) (cutAt n pd i)
    rw [hda, hcd] at hap
    have hcc := B_cut pd (i * n) ((i + 1) * n)
    rw [hct] at hcc
    have hdi := hdl i
    rw [hnk] at hm1
    generalize hA : i * n = A at *
    generalize hBB : (i + 1) * n = C at *
    generalize hI : i + 1 = I1 at *
    simp [tm, hlt, hs, e3, e4, hpad, hm1, hm2, hcc, evalW, source, hdi, hap]
    exact ⟨by omega, I1, by omega, by omega, by simp [hI]⟩
  · have : i = K := by omega
    subst this
    have hdi := hdl i
    have htk : (rowsS (dat i l i)).take i = rowsS (dat i l i) := List.take_of_length_le (by simp [hdi])
    simp [tm, hdi, rcall80, henc, htk]
end Go.Ae.C3
namespace Go.Ae.C3
set_option linter.unusedSimpArgs false
set_option linter.unusedVariables false
set_option maxRecDepth 10000

structure GShard where
  Pos : Int
  Bytes : ByteArray
namespace GShard
def enc (x : GShard) : List AV := [.int .i64 x.Pos, .str x.Bytes]
def zero : GShard := ⟨0, ByteArray.empty⟩
def mkAt (c : Int) (i : Nat) : GShard := ⟨c + 2 * i, mtext (c + 2 * i + 1)⟩
def wt (x : GShard) : Nat := x.Bytes.size
/-- Numbers of 64 bits, texts of a machine's size. -/
def ok (x : GShard) : Prop := (-9223372036854775808 ≤ x.Pos ∧ x.Pos ≤ 9223372036854775807) ∧ x.Bytes.size ≤ 140737488351232
end GShard
structure GDelta where
  Pos : Int
  At : Int
  Bytes : ByteArray
namespace GDelta
def enc (x : GDelta) : List AV := [.int .i64 x.Pos, .int .i64 x.At, .str x.Bytes]
def zero : GDelta := ⟨0, 0, ByteArray.empty⟩
def mkAt (c : Int) (i : Nat) : GDelta := ⟨c + 3 * i, c + 3 * i + 1, mtext (c + 3 * i + 2)⟩
def wt (x : GDelta) : Nat := x.Bytes.size
/-- Numbers of 64 bits, texts of a machine's size. -/
def ok (x : GDelta) : Prop := (-9223372036854775808 ≤ x.Pos ∧ x.Pos ≤ 9223372036854775807) ∧ (-9223372036854775808 ≤ x.At ∧ x.At ≤ 9223372036854775807) ∧ x.Bytes.size ≤ 140737488351232
end GDelta
theorem fitShardS : ∀ {xs : List (List AV)}, (∀ r ∈ xs, FitsAll [.int .i64, .str] r) → ∃ ws : List GShard, xs = rws GShard.enc ws ∧ ∀ x ∈ ws, x.ok
  | [], _ => ⟨[], rfl, fun _ h => by cases h⟩
  | r :: xs, h => by
    have h0 := h r List.mem_cons_self
    obtain ⟨_, _, rfl, h1, h0⟩ := h0.cons_inv
    obtain ⟨_, _, rfl, h2, h0⟩ := h0.cons_inv
    obtain rfl := h0.nil_inv
    obtain ⟨v0, rfl, w0⟩ := h1.i64_inv
    obtain ⟨v1, rfl, w1⟩ := h2.str_inv
    obtain ⟨ws, rfl, hw⟩ := fitShardS fun x hx => h x (List.mem_cons_of_mem _ hx)
    exact ⟨⟨v0, v1⟩ :: ws, rfl, fun s hs => by rcases List.mem_cons.1 hs with rfl | hs; exact ⟨w0, w1⟩; exact hw s hs⟩
theorem fitInt64S : ∀ {xs : List (List AV)}, (∀ r ∈ xs, FitsAll [.int .i64] r) → ∃ ws : List Int, xs = rws encI ws ∧ ∀ x ∈ ws, (-9223372036854775808 ≤ x ∧ x ≤ 9223372036854775807)
  | [], _ => ⟨[], rfl, fun _ h => by cases h⟩
  | r :: xs, h => by
    have h0 := h r List.mem_cons_self
    obtain ⟨_, _, rfl, h1, h0⟩ := h0.cons_inv
    obtain rfl := h0.nil_inv
    obtain ⟨v0, rfl, w0⟩ := h1.i64_inv
    obtain ⟨ws, rfl, hw⟩ := fitInt64S fun x hx => h x (List.mem_cons_of_mem _ hx)
    exact ⟨v0 :: ws, rfl, fun s hs => by rcases List.mem_cons.1 hs with rfl | hs; exact w0; exact hw s hs⟩
theorem fitStringS : ∀ {xs : List (List AV)}, (∀ r ∈ xs, FitsAll [.str] r) → ∃ ws : List ByteArray, xs = rws encT ws ∧ ∀ x ∈ ws, x.size ≤ 140737488351232
  | [], _ => ⟨[], rfl, fun _ h => by cases h⟩
  | r :: xs, h => by
    have h0 := h r List.mem_cons_self
    obtain ⟨_, _, rfl, h1, h0⟩ := h0.cons_inv
    obtain rfl := h0.nil_inv
    obtain ⟨v0, rfl, w0⟩ := h1.str_inv
    obtain ⟨ws, rfl, hw⟩ := fitStringS fun x hx => h x (List.mem_cons_of_mem _ hx)
    exact ⟨v0 :: ws, rfl, fun s hs => by rcases List.mem_cons.1 hs with rfl | hs; exact w0; exact hw s hs⟩
theorem fitDeltaS : ∀ {xs : List (List AV)}, (∀ r ∈ xs, FitsAll [.int .i64, .int .i64, .str] r) → ∃ ws : List GDelta, xs = rws GDelta.enc ws ∧ ∀ x ∈ ws, x.ok
  | [], _ => ⟨[], rfl, fun _ h => by cases h⟩
  | r :: xs, h => by
    have h0 := h r List.mem_cons_self
    obtain ⟨_, _, rfl, h1, h0⟩ := h0.cons_inv
    obtain ⟨_, _, rfl, h2, h0⟩ := h0.cons_inv
    obtain ⟨_, _, rfl, h3, h0⟩ := h0.cons_inv
    obtain rfl := h0.nil_inv
    obtain ⟨v0, rfl, w0⟩ := h1.i64_inv
    obtain ⟨v1, rfl, w1⟩ := h2.i64_inv
    obtain ⟨v2, rfl, w2⟩ := h3.str_inv
    obtain ⟨ws, rfl, hw⟩ := fitDeltaS fun x hx => h x (List.mem_cons_of_mem _ hx)
    exact ⟨⟨v0, v1, v2⟩ :: ws, rfl, fun s hs => by rcases List.mem_cons.1 hs with rfl | hs; exact ⟨w0, w1, w2⟩; exact hw s hs⟩
theorem markText (k : Nat) (c : Nat) (h : 1 ≤ c ∧ c ≤ 1000000000) : call code (k + 1) 81 [.int .i64 c] [] = some ⟨.str (mtext c), [], []⟩ := by
  refine call_run rfl fn81 rfl ?_
  have hd : ¬ c = 0 := by omega
  simp [F81, hd]
  refine RunC_loop (fun q : Nat × ByteArray => ⟨[.int .i64 q.1, .undef, .undef, .str q.2] ++ List.replicate 16 .undef, [], []⟩)
    (fun q => q.2.size + q.1 ≤ 1000000000 ∧ mdig q.1 q.2 = mdig c ByteArray.empty) (fun q => q.1) (c, ByteArray.empty) ⟨by simp; omega, rfl⟩ (by simp; omega) (by simp) fun q hq _ => ?_
  obtain ⟨n, t⟩ := q
  obtain ⟨h1, h2⟩ := hq
  simp only at h1 h2
  rw [mdig] at h2
  by_cases h0 : n = 0
  · subst h0
    simp at h2
    subst h2
    have hz : (mdig c ByteArray.empty).size ≤ 1000000000 := by omega
    simp [mtext]
    have : ByteArray.size ⟨#[109]⟩ = 1 := rfl
    omega
  · rw [dif_neg h0] at h2
    have hgt : 0 < n := by omega
    have e1 : (n : Int).tmod 10 = ((n % 10 : Nat) : Int) := rfl
    have e2 : (n : Int).tdiv 10 = ((n / 10 : Nat) : Int) := rfl
    have e3 : IntKind.wrap .i64 (48 + ((n % 10 : Nat) : Int)) = 48 + ((n % 10 : Nat) : Int) := wrap64 ⟨by omega, by omega⟩
    have e4 : IntKind.wrap .u8 (48 + ((n % 10 : Nat) : Int)) = 48 + ((n % 10 : Nat) : Int) := by
      simp only [IntKind.wrap, IntKind.signed, IntKind.bits, IntKind.min, IntKind.max]
      simp
      omega
    have e5 : IntKind.wrap .i64 ((n / 10 : Nat) : Int) = ((n / 10 : Nat) : Int) := wrap64 ⟨by omega, by omega⟩
    have hb : bytesOf [[AV.int .u8 (48 + ((n % 10 : Nat) : Int))]] = some [UInt8.ofNat (48 + n % 10)] := by
      simp only [bytesOf]
      rw [show (48 + ((n % 10 : Nat) : Int)).toNat = 48 + n % 10 by omega]
    have hsz : (dig n).size = 1 := rfl
    have hds : ByteArray.mk #[48 + UInt8.ofNat (n % 10)] = dig n := by unfold dig; rw [UInt8.ofNat_add]; rfl
    generalize hm : n % 10 = m at *
    generalize hq : n / 10 = q at *
    simp [hgt, e1, e2, e3, e4, e5, hb, hds, hsz]
    exact ⟨by omega, q, dig n ++ t, ⟨by rw [ByteArray.size_append, hsz]; omega, h2⟩, by omega, rfl, rfl⟩
theorem markTextI (k : Nat) (c : Int) (h : 1 ≤ c ∧ c ≤ 1000000000) : call code (k + 1) 81 [.int .i64 c] [] = some ⟨.str (mtext c), [], []⟩ := by
  obtain ⟨n, rfl⟩ : ∃ n : Nat, c = n := ⟨c.toNat, by omega⟩
  exact markText k n (by omega)
theorem toCode (k : Nat) (v0 : Int) (v1 : Int)  : call code (k + 1) 18 [.agg [.int .i64 v0, .int .i64 v1]] [] = some ⟨.agg [.int .i64 v0, .int .i64 v1], [], []⟩ := by
  refine call_run rfl fn18 rfl ?_
  simp [F18]
theorem eqInt64S (k : Nat) (ws : List Int) (hn : ws.length ≤ 1048576000) : call code (k + 1) 26 [.rd true (rws encI ws), .rd true (rws encI ws)] [] = some ⟨.bool true, [], []⟩ := by
  refine call_run rfl fn26 rfl ?_
  simp [F26]
  refine RunC_loop (fun i : Nat => ⟨tm 26 [(0, .rd true (rws encI ws)), (1, .rd true (rws encI ws)), (5, .int .i64 i)], [], []⟩)
    (fun i => i ≤ ws.length) (fun i => ws.length - i) 0 (Nat.zero_le _) (by simp; omega) (by simp [tm]) fun i hi _ => ?_
  by_cases hlt : i < ws.length
  · have hs := idx_succ' hlt (by omega)
    simp [tm, hlt, hs, encI]
    exact ⟨i + 1, by omega, by omega, by simp⟩
  · have : i = ws.length := by omega
    subst this
    simp [tm]
set_option maxHeartbeats 4000000 in
theorem markInt64S (k lv : Nat) (E : List Heap) (S : Nat) (ws : List Int) (c : Int) (hn : ws.length ≤ 1100000) (hc : 1 ≤ c ∧ c ≤ 800000000) (hlv : lv < E.length) (hl : (hat E lv).get S = some (some ⟨0, 1, false, true, rws encI ws⟩)) :
    call code (k + 1) 28 [.sl (lv + 1) S 0 [] 0 ws.length, .int .i64 c] E = some ⟨.int .i64 (c + ws.length), [], E.modify lv fun h => hp h S (mblk encI 1 mkI c ws) ws.length⟩ := by
  refine call_run rfl fn28 rfl ?_
  simp [F28]
  refine RunC_loop (fun i : Nat => ⟨tm 19 [(0, .sl (lv + 1) S 0 [] 0 ws.length), (1, .int .i64 (c + i)), (5, .int .i64 i)], [], E.modify lv fun h => hp h S (mblk encI 1 mkI c ws) i⟩)
    (fun i => i ≤ ws.length) (fun i => ws.length - i) 0 (Nat.zero_le _) (by simp; omega) (by simp [tm, hp_zero, modify_id']) fun i hi _ => ?_
  have hg : (hp (hat E lv) S (mblk encI 1 mkI c ws) i).get S = some (some ⟨0, 1, false, true, rws encI (mix (mkI c) ws i)⟩) := hp_get (by rw [mblk_zero]; exact hl) i
  have hml := mix_len (f := mkI c) hi
  by_cases hlt : i < ws.length
  · have hs := idx_succ' hlt (by omega)
    have hset : (rws encI (mix (mkI c) ws i)).set i (encI (mkI c i)) = rws encI (mix (mkI c) ws (i + 1)) := by rw [rws_set, mix_set hlt]
    have hhs : ∀ h : Heap, (hp h S (mblk encI 1 mkI c ws) i).set S (some ⟨0, 1, false, true, rws encI (mix (mkI c) ws (i + 1))⟩) = hp h S (mblk encI 1 mkI c ws) (i + 1) := fun h => hp_set i
    have p0 : IntKind.wrap .i64 (c + (i : Int) + 1) = c + ((i + 1 : Nat) : Int) := by rw [wrap64 ⟨by omega, by omega⟩] <;> omega
    simp only [encI, mkI] at hset
    simp [tm, hlt, hg, blk_succ, heap_succ, put_succ, hat_modify, modify_modify', hlv, hml, hs, get_set, set_set_same, encI, hset, hhs, p0]
    exact ⟨i + 1, by omega, by omega, by simp⟩
  · have : i = ws.length := by omega
    subst this
    simp [tm, hg, blk_succ, hml, hat_modify, hlv]
set_option maxHeartbeats 4000000 in
theorem heldInt64S (k : Nat) (n : Nat) (c : Int) (hn : n ≤ 1100000) (hc : 1 ≤ c ∧ c ≤ 800000000) : call code (k + 1) 29 [.rd true (rws encI (marks mkI c n)), .int .i64 c] [] = some ⟨.int .i64 (c + n), [], []⟩ := by
  refine call_run rfl fn29 rfl ?_
  simp [F29]
  refine RunC_loop (fun i : Nat => ⟨tm 21 [(0, .rd true (rws encI (marks mkI c n))), (1, .int .i64 (c + i)), (5, .int .i64 i)], [], []⟩)
    (fun i => i ≤ n) (fun i => n - i) 0 (Nat.zero_le _) (by simp; omega) (by simp [tm]) fun i hi _ => ?_
  by_cases hlt : i < n
  · have hs := idx_succ' hlt (by omega)
    have p0 : IntKind.wrap .i64 (c + (i : Int) + 1) = c + ((i + 1 : Nat) : Int) := by rw [wrap64 ⟨by omega, by omega⟩] <;> omega
    simp [tm, hlt, hs, marks_at, encI, mkI, p0]
    exact ⟨i + 1, by omega, by omega, by simp⟩
  · have : i = n := by omega
    subst this
    simp [tm]
theorem szShard_ (k : Nat) (l : Int) (v0 : Int) (v1 : ByteArray) (hl : 0 ≤ l ∧ l ≤ 1048576) (b1 : v1.size ≤ 140737488351232) : call code (k + 1) 69 [.agg [.int .i64 v0, .str v1], .int .i64 l] [] = some ⟨.int .i64 (szV l (v1.size)), [], []⟩ := by
  refine call_run rfl fn69 rfl ?_
  have e0 : IntKind.wrap .i64 (l - (v1.size : Int)) = l - v1.size := wrap64 ⟨by omega, by omega⟩
  cases d0 : decide (l - (v1.size : Int) < 0)
  rotate_left
  · have a0 := of_decide_eq_true d0
    have hr : szV l (v1.size) = -1 := szV_gt (by omega)
    rw [hr]; simp [F69, e0, d0]
  have a0 := of_decide_eq_false d0
  have hr : szV l (v1.size) = l - (v1.size : Int) := by rw [szV_le (by omega)] <;> omega
  rw [hr]; simp [F69, e0, d0]
theorem szShard (k : Nat) (l : Int) (x : GShard) (hl : 0 ≤ l ∧ l ≤ 1048576) (h : x.ok) : call code (k + 1) 69 [.agg x.enc, .int .i64 l] [] = some ⟨.int .i64 (szV l x.wt), [], []⟩ := by
  obtain ⟨v0, v1⟩ := x
  simp only [GShard.ok] at h
  exact szShard_ k l v0 v1 hl (by omega)
theorem toShard (k : Nat) (v0 : Int) (v1 : ByteArray)  : call code (k + 1) 72 [.agg [.int .i64 v0, .str v1]] [] = some ⟨.agg [.int .i64 v0, .str v1], [], []⟩ := by
  refine call_run rfl fn72 rfl ?_
  simp [F72]
theorem eqShard (k : Nat) (v0 : Int) (v1 : ByteArray)  : call code (k + 1) 76 [.agg [.int .i64 v0, .str v1], .agg [.int .i64 v0, .str v1]] [] = some ⟨.bool true, [], []⟩ := by
  refine call_run rfl fn76 rfl ?_
  simp [F76]
theorem szShardS (k : Nat) (l : Int) (ws : List GShard) (hl : 0 ≤ l ∧ l ≤ 1048576) (hn : ws.length ≤ 140737488351232) (hs : ∀ x ∈ ws, x.ok) : call code (k + 2) 16 [.rd true (rws GShard.enc ws), .int .i64 l] [] = some ⟨.int .i64 (szV l (ws.length + wsum GShard.wt ws)), [], []⟩ := by
  refine call_run rfl fn16 rfl ?_
  have e1 : IntKind.wrap .i64 (l - (ws.length : Int)) = l - ws.length := wrap64 ⟨by omega, by omega⟩
  cases hd : decide (l - (ws.length : Int) < 0)
  · have hd' := of_decide_eq_false hd
    rw [← szV_step (by omega)]
    simp [F16, e1, hd]
    refine RunC_loop (fun q : Nat × Int => ⟨tm 27 [(0, .rd true (rws GShard.enc ws)), (1, .int .i64 q.2), (5, .int .i64 q.1)], [], []⟩)
      (fun q => q.1 ≤ ws.length ∧ 0 ≤ q.2 ∧ q.2 ≤ l ∧ szV q.2 (wsum GShard.wt (ws.drop q.1)) = szV (l - ws.length) (wsum GShard.wt ws)) (fun q => ws.length - q.1) (0, l - ws.length) ⟨Nat.zero_le _, by simp; omega, by simp; omega, by simp⟩ (by simp; omega) (by simp [tm]) fun q hq _ => ?_
    obtain ⟨i, c⟩ := q
    obtain ⟨h1, h2, h3, h4⟩ := hq
    simp only at h1 h2 h3 h4
    by_cases hlt : i < ws.length
    · have hz := hs ws[i] (List.getElem_mem hlt)
      have hi := idx_succ' hlt (by omega)
      rw [wsum_drop hlt] at h4
      have hp := fun k => szShard k c ws[i] ⟨h2, by omega⟩ hz
      cases hd2 : decide (szV c (GShard.wt ws[i]) < 0)
      · obtain ⟨a1, a2⟩ := szV_pos hd2 h2
        rw [a2] at hp hd2
        rw [← szV_step a1] at h4
        simp only [GShard.enc] at hp
        simp [tm, hlt, hi, GShard.enc, rcall69, hp, hd2]
        exact ⟨i + 1, _, ⟨by omega, by omega, by omega, h4⟩, by omega, rfl, by simp⟩
      · obtain ⟨a1, a2⟩ := szV_neg hd2 h2
        rw [a2] at hp
        rw [szV_stop a1] at h4
        simp only [GShard.enc] at hp
        simp [tm, hlt, GShard.enc, rcall69, hp, ← h4]
    · have : i = ws.length := by omega
      subst this
      rw [wsum_all, szV_zero h2] at h4
      simp [tm, h4]
  · rw [szV_stop (by have := of_decide_eq_true hd; omega)]
    simp [F16, e1, hd]
theorem toShardS (k : Nat) (ws : List GShard) (hn : ws.length ≤ 1048576) : call code (k + 2) 19 [.rd true (rws GShard.enc ws)] [] = some ⟨.sl 0 0 0 [] 0 ws.length, [⟨0, 2, false, true, rws GShard.enc ws⟩], []⟩ := by
  refine call_run rfl fn19 rfl ?_
  simp [F19, zeroRow]
  refine ⟨⟨by omega, by omega⟩, ?_⟩
  refine RunC_loop (fun i : Nat => ⟨tm 23 [(0, .rd true (rws GShard.enc ws)), (3, .sl 0 66048 0 [] 0 ws.length), (4, .int .i64 i)], [(0, some ⟨0, 2, false, true, []⟩), (66048, some ⟨0, 2, false, true, rws GShard.enc (cpy GShard.zero ws i)⟩)], []⟩)
    (fun i => i ≤ ws.length) (fun i => ws.length - i) 0 (Nat.zero_le _) (by simp; omega) (by simp [tm, rws_cpy, GShard.enc, GShard.zero]) fun i hi _ => ?_
  have hcl := cpy_len (z := GShard.zero) hi
  by_cases hlt : i < ws.length
  · have hst : (rws GShard.enc (cpy GShard.zero ws i)).set i (GShard.enc ws[i]) = rws GShard.enc (cpy GShard.zero ws (i + 1)) := by rw [rws_set, cpy_set hlt]
    have hs := idx_succ' hlt (by omega)
    simp only [GShard.enc] at hst
    simp [tm, hlt, hcl, hst, hs, GShard.enc, rcall72, toShard]
    exact ⟨i + 1, by omega, by omega, by simp, rfl⟩
  · have : i = ws.length := by omega
    subst this
    simp [tm, cpy_all]
theorem eqShardS (k : Nat) (ws : List GShard) (hn : ws.length ≤ 1048576000) : call code (k + 2) 21 [.rd true (rws GShard.enc ws), .rd true (rws GShard.enc ws)] [] = some ⟨.bool true, [], []⟩ := by
  refine call_run rfl fn21 rfl ?_
  simp [F21]
  refine RunC_loop (fun i : Nat => ⟨tm 27 [(0, .rd true (rws GShard.enc ws)), (1, .rd true (rws GShard.enc ws)), (5, .int .i64 i)], [], []⟩)
    (fun i => i ≤ ws.length) (fun i => ws.length - i) 0 (Nat.zero_le _) (by simp; omega) (by simp [tm]) fun i hi _ => ?_
  by_cases hlt : i < ws.length
  · have hs := idx_succ' hlt (by omega)
    simp [tm, hlt, hs, GShard.enc, rcall76, eqShard]
    exact ⟨i + 1, by omega, by omega, by simp⟩
  · have : i = ws.length := by omega
    subst this
    simp [tm]
set_option maxHeartbeats 4000000 in
theorem markShardS (k lv : Nat) (E : List Heap) (S : Nat) (ws : List GShard) (c : Int) (hn : ws.length ≤ 1100000) (hc : 1 ≤ c ∧ c ≤ 800000000) (hlv : lv < E.length) (hl : (hat E lv).get S = some (some ⟨0, 2, false, true, rws GShard.enc ws⟩)) :
    call code (k + 2) 27 [.sl (lv + 1) S 0 [] 0 ws.length, .int .i64 c] E = some ⟨.int .i64 (c + 2 * ws.length), [], E.modify lv fun h => hp h S (mblk GShard.enc 2 GShard.mkAt c ws) ws.length⟩ := by
  refine call_run rfl fn27 rfl ?_
  simp [F27]
  refine RunC_loop (fun i : Nat => ⟨tm 28 [(0, .sl (lv + 1) S 0 [] 0 ws.length), (1, .int .i64 (c + 2 * i)), (5, .int .i64 i)], [], E.modify lv fun h => hp h S (mblk GShard.enc 2 GShard.mkAt c ws) i⟩)
    (fun i => i ≤ ws.length) (fun i => ws.length - i) 0 (Nat.zero_le _) (by simp; omega) (by simp [tm, hp_zero, modify_id']) fun i hi _ => ?_
  have hg : (hp (hat E lv) S (mblk GShard.enc 2 GShard.mkAt c ws) i).get S = some (some ⟨0, 2, false, true, rws GShard.enc (mix (GShard.mkAt c) ws i)⟩) := hp_get (by rw [mblk_zero]; exact hl) i
  have hml := mix_len (f := GShard.mkAt c) hi
  by_cases hlt : i < ws.length
  · have hs := idx_succ' hlt (by omega)
    have hset : (rws GShard.enc (mix (GShard.mkAt c) ws i)).set i (GShard.enc (GShard.mkAt c i)) = rws GShard.enc (mix (GShard.mkAt c) ws (i + 1)) := by rw [rws_set, mix_set hlt]
    have hhs : ∀ h : Heap, (hp h S (mblk GShard.enc 2 GShard.mkAt c ws) i).set S (some ⟨0, 2, false, true, rws GShard.enc (mix (GShard.mkAt c) ws (i + 1))⟩) = hp h S (mblk GShard.enc 2 GShard.mkAt c ws) (i + 1) := fun h => hp_set i
    have p0 : IntKind.wrap .i64 (c + 2 * (i : Int) + 1) = c + 2 * (i : Int) + 1 := by rw [wrap64 ⟨by omega, by omega⟩] <;> omega
    have p1 : IntKind.wrap .i64 (c + 2 * (i : Int) + 1 + 1) = c + 2 * ((i + 1 : Nat) : Int) := by rw [wrap64 ⟨by omega, by omega⟩] <;> omega
    have m1 := fun k => markTextI k (c + 2 * (i : Int) + 1) (by omega)
    simp only [GShard.enc, GShard.mkAt] at hset
    simp [tm, hlt, hg, blk_succ, heap_succ, put_succ, hat_modify, modify_modify', hlv, hml, hs, get_set, set_set_same, GShard.enc, hset, hhs, p0, p1, m1, rcall81]
    exact ⟨i + 1, by omega, by omega, by simp⟩
  · have : i = ws.length := by omega
    subst this
    simp [tm, hg, blk_succ, hml, hat_modify, hlv]
end Go.Ae.C3
namespace Go.Ae.C3
set_option linter.unusedSimpArgs false
set_option linter.unusedVariables false
def codeB (K M : Int) : Bool := inB K 1 4 && inB M 0 3
theorem codeOk (k : Nat) (K M : Int) : call code (k + 2) 84 [.agg [.int .i64 K, .int .i64 M]] [] = some ⟨.bool (codeB K M), [], []⟩ := by
  refine call_run rfl fn84 rfl ?_
  have h1 := fun k => between k K 1 4
  have h2 := fun k => between k M 0 3
  cases c1 : inB K 1 4
  · simp [F84, rcall86, h1, c1, codeB]
  · simp [F84, rcall86, h1, h2, c1, codeB]
theorem l04Code (k : Nat) (K M : Int) : call code (k + 2) 88 [.agg [.int .i64 K, .int .i64 M]] [] = some ⟨.bool (codeB K M), [], []⟩ := by
  refine call_run rfl fn88 rfl ?_
  have h1 := fun k => l00In k K 1 4
  have h2 := fun k => l00In k M 0 3
  cases c1 : inB K 1 4
  · simp [F88, rcall77, h1, c1, codeB]
  · simp [F88, rcall77, h1, h2, c1, codeB]
theorem codeB_nat {K M : Int} (h : codeB K M = true) : ∃ a b : Nat, K = a ∧ M = b ∧ 1 ≤ a ∧ a ≤ 4 ∧ b ≤ 3 := by
  simp [codeB, inB] at h
  exact ⟨K.toNat, M.toNat, by omega, by omega, by omega, by omega, by omega⟩
theorem size (k : Nat) (K M : Nat) (h : K ≤ 1000 ∧ M ≤ 1000) : call code (k + 1) 96 [.agg [.int .i64 K, .int .i64 M]] [] = some ⟨.int .i64 (K + M : Nat), [], []⟩ := by
  refine call_run rfl fn96 rfl ?_
  have e1 : IntKind.wrap .i64 ((K : Int) + (M : Int)) = ((K + M : Nat) : Int) := by rw [wrap64 ⟨by omega, by omega⟩]; omega
  generalize K + M = q at *
  simp [F96, e1]
theorem isPos (k : Nat) (K M : Nat) (p : Int) (h : K ≤ 1000 ∧ M ≤ 1000) : call code (k + 2) 79 [.agg [.int .i64 K, .int .i64 M], .int .i64 p] [] = some ⟨.bool (inB p 0 ((K + M : Nat) - 1)), [], []⟩ := by
  refine call_run rfl fn79 rfl ?_
  have hz := fun k => size k K M h
  have e1 : IntKind.wrap .i64 (((K + M : Nat) : Int) - 1) = ((K + M : Nat) : Int) - 1 := wrap64 ⟨by omega, by omega⟩
  have hb := fun k => between k p 0 (((K + M : Nat) : Int) - 1)
  generalize K + M = q at *
  simp [F79, rcall96, hz, e1, rcall86, hb]
theorem shs_len (K M : Nat) (l : List UInt8) : (shs K M l).length = K + M := by simp [shs, pcs_len]
end Go.Ae.C3
