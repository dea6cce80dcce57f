/- The mixing of a name's bytes, twice told. -/
import Derived.Test.YtnoicgabcojmhaaR1Code
namespace Go.Ae.R1
set_option linter.unusedSimpArgs false
set_option linter.unusedVariables false
def step (h w : Nat) : Nat :=
  let a := ((h ^^^ w) * 16777619) % 4294967296
  let b := a ^^^ (a >>> 15)
  let c := (b * 1540483477) % 4294967296
  c ^^^ (c >>> 13)
def mixN (ws : List Nat) : Nat := ws.foldl step 2166136261
theorem step_lt (h w : Nat) : step h w < 4294967296 := by
  unfold step
  have h1 : ∀ x, x % 4294967296 < 2 ^ 32 := fun x => Nat.mod_lt _ (by decide)
  have h2 : ∀ x y, (x % 4294967296) ^^^ ((x % 4294967296) >>> y) < 2 ^ 32 := fun x y => Nat.xor_lt_two_pow (h1 _) (Nat.lt_of_le_of_lt (Nat.shiftRight_le _ _) (h1 _))
  exact h2 _ _
theorem xs_lt {x : Nat} (h : x < 4294967296) (y : Nat) : x ^^^ (x >>> y) < 4294967296 := Nat.xor_lt_two_pow (n := 32) h (Nat.lt_of_le_of_lt (Nat.shiftRight_le _ _) h)
theorem low_eq (n : Nat) : n &&& 4294967295 = n % 4294967296 := Nat.and_two_pow_sub_one_eq_mod n 32
theorem l01Low (k : Nat) (n : Nat) (h : n < 9223372036854775808) : call code (k + 1) 92 [.int .i64 n] [] = some ⟨.int .i64 (n % 4294967296 : Nat), [], []⟩ := by
  refine call_run rfl fn92 rfl ?_
  have e : gAnd .i64 (n : Int) 4294967295 = ((n % 4294967296 : Nat) : Int) := by
    have := gAnd64 (a := n) (b := 4294967295) h (by decide)
    rw [low_eq] at this; exact this
  simp [F92, e]
def rowsN (ws : List Nat) : List (List AV) := ws.map fun (n : Nat) => [AV.int .i64 (n : Int)]
theorem rows_get {ws : List Nat} {i : Nat} (h : i < ws.length) : (rowsN ws)[i]? = some [.int .i64 (ws[i] : Nat)] := by simp [rowsN, h]
theorem take_fold (ws : List Nat) (i : Nat) (h : i < ws.length) : (ws.take (i + 1)).foldl step 2166136261 = step ((ws.take i).foldl step 2166136261) ws[i] := by
  rw [List.take_succ_eq_append_getElem h, List.foldl_append, List.foldl_cons, List.foldl_nil]
theorem fold_lt (ws : List Nat) (i : Nat) : (ws.take i).foldl step 2166136261 < 4294967296 := by
  cases i with
  | zero => rw [List.take_zero, List.foldl_nil]; omega
  | succ i =>
    by_cases h : i < ws.length
    · rw [take_fold ws i h]; exact step_lt _ _
    · rw [List.take_of_length_le (by omega)]
      rcases ws.eq_nil_or_concat with rfl | ⟨l, a, rfl⟩
      · rw [List.foldl_nil]; omega
      · rw [List.concat_eq_append, List.foldl_append, List.foldl_cons, List.foldl_nil]; exact step_lt _ _
theorem specMix (k : Nat) (ws : List Nat) (hw : ∀ w ∈ ws, w < 256) (hl : ws.length ≤ 1000) : call code (k + 2) 90 [.rd true (rowsN ws)] [] = some ⟨.int .i64 (mixN ws : Nat), [], []⟩ := by
  refine call_run rfl fn90 rfl ?_
  simp [F90]
  refine RunC_loop (fun i : Nat => ⟨[.rd true (rowsN ws), .undef, .undef, .int .i64 ((ws.take i).foldl step 2166136261 : Nat), .int .i64 i] ++ List.replicate 27 .undef, [], []⟩)
    (fun i => i ≤ ws.length) (fun i => ws.length - i) 0 (by omega) (by simp; omega) (by simp) fun i hi _ => ?_
  have hrl : (rowsN ws).length = ws.length := by simp [rowsN]
  by_cases hlt : i < ws.length
  · have hb : ws[i] < 256 := hw _ (List.getElem_mem hlt)
    have hh := fold_lt ws i
    have hf := take_fold ws i hlt
    generalize (ws.take i).foldl step 2166136261 = hv at hh hf ⊢
    have hg : ∀ h, (rowsN ws)[i]'h = [AV.int .i64 (ws[i] : Nat)] := fun h => by simp [rowsN]
    generalize ws[i] = w at hb hf hg
    have hwm : w % 4294967296 = w := Nat.mod_eq_of_lt (by omega)
    have e1 : gXor .i64 (hv : Int) (w : Int) = ((hv ^^^ w : Nat) : Int) := gXor64 (by omega) (by omega)
    have x1 : hv ^^^ w < 2 ^ 32 := Nat.xor_lt_two_pow hh (by omega)
    have e2 : IntKind.wrap .i64 (((hv ^^^ w : Nat) : Int) * 16777619) = (((hv ^^^ w) * 16777619 : Nat) : Int) := by rw [wrap64 ⟨by omega, by omega⟩]; omega
    have a1 := l01Low k ((hv ^^^ w) * 16777619) (by omega)
    generalize ha : (hv ^^^ w) * 16777619 % 4294967296 = a at a1
    have a0 : a < 4294967296 := by omega
    have e3 : gShr .i64 (a : Int) 15 = ((a >>> 15 : Nat) : Int) := gShrN (n := 15) (by decide)
    have x2 := xs_lt a0 15
    have e4 : gXor .i64 (a : Int) ((a >>> 15 : Nat) : Int) = ((a ^^^ (a >>> 15) : Nat) : Int) := gXor64 (by omega) (Nat.lt_of_le_of_lt (Nat.shiftRight_le _ _) (by omega))
    generalize hs1 : a >>> 15 = a' at e3 e4 x2
    generalize hb' : a ^^^ a' = b at x2 e4
    have e5 : IntKind.wrap .i64 ((b : Int) * 1540483477) = ((b * 1540483477 : Nat) : Int) := by rw [wrap64 ⟨by omega, by omega⟩]; omega
    have a2 := l01Low k (b * 1540483477) (by omega)
    generalize hc : b * 1540483477 % 4294967296 = c at a2
    have c0 : c < 4294967296 := by omega
    have e6 : gShr .i64 (c : Int) 13 = ((c >>> 13 : Nat) : Int) := gShrN (n := 13) (by decide)
    have e7 : gXor .i64 (c : Int) ((c >>> 13 : Nat) : Int) = ((c ^^^ (c >>> 13) : Nat) : Int) := gXor64 (by omega) (Nat.lt_of_le_of_lt (Nat.shiftRight_le _ _) (by omega))
    generalize hs2 : c >>> 13 = c' at e6 e7
    have hst : step hv w = c ^^^ c' := by simp only [step, ha, hs1, hb', hc, hs2]
    generalize c ^^^ c' = z at e7 hst
    have a3 := l01Low k w (by omega)
    rw [hwm] at a3
    have k1 : ((16777619 : Nat) : Int) = 16777619 := rfl
    have k2 : ((1540483477 : Nat) : Int) = 1540483477 := rfl
    simp only [Int.natCast_mul, k1, k2] at e2 e5 a1 a2
    simp [hlt, hrl, hg, rcall, a3, e1, e2, a1, e3, e4, e5, a2, e6, e7]
    exact ⟨i + 1, by omega, by omega, by rw [hf, hst], by rw [wrap64 ⟨by omega, by omega⟩]; rfl⟩
  · have : i = ws.length := by omega
    subst this
    simp [hrl, mixN]
theorem implMix (k : Nat) (ws : List Nat) (hw : ∀ w ∈ ws, w < 256) (hl : ws.length ≤ 1000) : call code (k + 1) 86 [.rd true (rowsN ws)] [] = some ⟨.int .i64 (mixN ws : Nat), [], []⟩ := by
  refine call_run rfl fn86 rfl ?_
  simp [F86]
  refine RunC_loop (fun i : Nat => ⟨[.undef, .undef, .undef, .int .u32 ((ws.take i).foldl step 2166136261 : Nat), .undef, .undef, .rd true (rowsN ws), .int .i64 ws.length, .int .i64 i] ++ List.replicate 21 .undef, [], []⟩)
    (fun i => i ≤ ws.length) (fun i => ws.length - i) 0 (by omega) (by simp; omega) (by simp [rowsN]) fun i hi _ => ?_
  have hrl : (rowsN ws).length = ws.length := by simp [rowsN]
  by_cases hlt : i < ws.length
  · have hb : ws[i] < 256 := hw _ (List.getElem_mem hlt)
    have hh := fold_lt ws i
    have hf := take_fold ws i hlt
    generalize (ws.take i).foldl step 2166136261 = hv at hh hf ⊢
    have hg : ∀ h, (rowsN ws)[i]'h = [AV.int .i64 (ws[i] : Nat)] := fun h => by simp [rowsN]
    generalize ws[i] = w at hb hf hg
    have hwm : w % 4294967296 = w := Nat.mod_eq_of_lt (by omega)
    have e1 : gXor .u32 (hv : Int) (w : Int) = ((hv ^^^ w : Nat) : Int) := gXor32 (by omega) (by omega)
    have x1 : hv ^^^ w < 2 ^ 32 := Nat.xor_lt_two_pow hh (by omega)
    have e0 : IntKind.wrap .u32 (w : Int) = (w : Int) := by rw [wrapU32, hwm]
    have e2 : IntKind.wrap .u32 (((hv ^^^ w : Nat) : Int) * 16777619) = (((hv ^^^ w) * 16777619 % 4294967296 : Nat) : Int) := by rw [show (((hv ^^^ w : Nat) : Int) * 16777619) = (((hv ^^^ w) * 16777619 : Nat) : Int) by omega, wrapU32]
    generalize ha : (hv ^^^ w) * 16777619 % 4294967296 = a at e2
    have a0 : a < 4294967296 := by omega
    have e3 : gShr .u32 (a : Int) 15 = ((a >>> 15 : Nat) : Int) := gShrN (n := 15) (by decide)
    have x2 := xs_lt a0 15
    have e4 : gXor .u32 (a : Int) ((a >>> 15 : Nat) : Int) = ((a ^^^ (a >>> 15) : Nat) : Int) := gXor32 (by omega) (Nat.lt_of_le_of_lt (Nat.shiftRight_le _ _) (by omega))
    generalize hs1 : a >>> 15 = a' at e3 e4 x2
    generalize hb' : a ^^^ a' = b at x2 e4
    have e5 : IntKind.wrap .u32 ((b : Int) * 1540483477) = ((b * 1540483477 % 4294967296 : Nat) : Int) := by rw [show ((b : Int) * 1540483477) = ((b * 1540483477 : Nat) : Int) by omega, wrapU32]
    generalize hc : b * 1540483477 % 4294967296 = c at e5
    have c0 : c < 4294967296 := by omega
    have e6 : gShr .u32 (c : Int) 13 = ((c >>> 13 : Nat) : Int) := gShrN (n := 13) (by decide)
    have e7 : gXor .u32 (c : Int) ((c >>> 13 : Nat) : Int) = ((c ^^^ (c >>> 13) : Nat) : Int) := gXor32 (by omega) (Nat.lt_of_le_of_lt (Nat.shiftRight_le _ _) (by omega))
    generalize hs2 : c >>> 13 = c' at e6 e7
    have hst : step hv w = c ^^^ c' := by simp only [step, ha, hs1, hb', hc, hs2]
    generalize c ^^^ c' = z at e7 hst
    simp [hlt, hrl, hg, e0, e1, e2, e3, e4, e5, e6, e7]
    exact ⟨i + 1, by omega, by omega, by rw [hf, hst], by rw [wrap64 ⟨by omega, by omega⟩]; rfl⟩
  · have : i = ws.length := by omega
    subst this
    have hm := fold_lt ws ws.length
    rw [List.take_length] at hm
    simp [hrl, mixN]
    rw [wrap64 ⟨by omega, by omega⟩]
def bytesN (s : ByteArray) : List Nat := s.data.toList.map UInt8.toNat
theorem bytesN_lt (s : ByteArray) : ∀ w ∈ bytesN s, w < 256 := by
  intro w hw
  obtain ⟨c, _, rfl⟩ := List.mem_map.1 hw
  exact c.toNat_lt
theorem bytesN_len (s : ByteArray) : (bytesN s).length = s.size := by simp [bytesN]
theorem bytesN_take {s : ByteArray} {i : Nat} (h : i < s.size) : rowsN ((bytesN s).take (i + 1)) = rowsN ((bytesN s).take i) ++ [[.int .i64 (s[i].toNat : Nat)]] := by
  have h2 : i < (bytesN s).length := by rw [bytesN_len]; exact h
  rw [List.take_succ_eq_append_getElem h2]
  have : (bytesN s)[i] = s[i].toNat := by
    have := bget_pos h
    simp only [bytesN, List.getElem_map]
    rw [List.getElem?_eq_getElem (by simpa using h)] at this
    rw [Option.some.inj this]
  rw [this]; simp [rowsN]
theorem pgOf (k : Nat) (id c m mn pgs ru : Int) (s : ByteArray) (hs : s.size ≤ 8) (hp : pgs ≠ 0) :
    call code (k + 2) 73 [.agg [.int .i64 id, .int .i64 c, .int .i64 m, .int .i64 mn, .int .i64 pgs, .int .i64 ru], .str s] [] = some ⟨.agg [.int .i64 id, .int .i64 ((mixN (bytesN s) : Int).tmod pgs)], [], []⟩ := by
  refine call_run rfl fn73 rfl ?_
  simp [F73]
  refine RunC_loop (fun i : Nat => ⟨[.undef, .str s, .ptr 0 0 0 [] 0 0, .undef, .ptr 0 256 0 [] 0 0, .sl 0 65536 0 [] 0 i, .undef, .undef, .int .i64 s.size, .int .i64 i] ++ List.replicate 18 .undef,
      [(0, some ⟨0, 6, true, false, [[.int .i64 id, .int .i64 c, .int .i64 m, .int .i64 mn, .int .i64 pgs, .int .i64 ru]]⟩), (256, some ⟨0, 2, true, false, [[.int .i64 0, .int .i64 0]]⟩), (65536, some ⟨0, 1, false, true, rowsN ((bytesN s).take i)⟩)], []⟩)
    (fun i => i ≤ s.size) (fun i => s.size - i) 0 (by omega) (by simp; omega) (by simp [Blk.mapR, rowsN]) fun i hi _ => ?_
  by_cases hlt : i < s.size
  · have hb : s[i].toNat < 256 := s[i].toNat_lt
    have e1 : IntKind.wrap .i64 ((s[i].toNat : Nat) : Int) = (s[i].toNat : Nat) := wrap64 ⟨by omega, by omega⟩
    have hl : (rowsN ((bytesN s).take i)).length = i := by simp [rowsN, bytesN_len]; omega
    simp [hlt, e1, hl, evalW, source]
    refine ⟨⟨by omega, by omega⟩, i + 1, by omega, by omega, ⟨rfl, ?_⟩, ?_⟩
    · rw [wrap64 ⟨by omega, by omega⟩]; rfl
    · rw [bytesN_take hlt]
  · have : i = s.size := by omega
    subst this
    have ht : (bytesN s).take s.size = bytesN s := by rw [← bytesN_len s, List.take_length]
    have hl : (rowsN (bytesN s)).length = s.size := by simp [rowsN, bytesN_len]
    have hm := fun k => implMix k (bytesN s) (bytesN_lt s) (by rw [bytesN_len]; omega)
    have ht2 : (rowsN (bytesN s)).take s.size = rowsN (bytesN s) := by rw [← hl, List.take_length]
    simp [ht, hl, ht2, rcall, hm, hp]
theorem l09No (k : Nat) (id c m mn pgs ru : Int) (s : ByteArray) (hs : s.size ≤ 8) (hp : pgs ≠ 0) :
    call code (k + 3) 84 [.agg [.int .i64 id, .int .i64 c, .int .i64 m, .int .i64 mn, .int .i64 pgs, .int .i64 ru], .str s] [] = some ⟨.int .i64 ((mixN (bytesN s) : Int).tmod pgs), [], []⟩ := by
  refine call_run rfl fn84 rfl ?_
  simp [F84]
  refine RunC_loop (fun i : Nat => ⟨[.undef, .str s, .ptr 0 0 0 [] 0 0, .undef, .undef, .sl 0 65536 0 [] 0 i, .int .i64 i] ++ List.replicate 19 .undef,
      [(0, some ⟨0, 6, true, false, [[.int .i64 id, .int .i64 c, .int .i64 m, .int .i64 mn, .int .i64 pgs, .int .i64 ru]]⟩), (65536, some ⟨0, 1, false, true, rowsN ((bytesN s).take i)⟩)], []⟩)
    (fun i => i ≤ s.size) (fun i => s.size - i) 0 (by omega) (by simp; omega) (by simp [Blk.mapR, rowsN]) fun i hi _ => ?_
  by_cases hlt : i < s.size
  · have hb : s[i].toNat < 256 := s[i].toNat_lt
    have e1 : IntKind.wrap .i64 ((s[i].toNat : Nat) : Int) = (s[i].toNat : Nat) := wrap64 ⟨by omega, by omega⟩
    have hl : (rowsN ((bytesN s).take i)).length = i := by simp [rowsN, bytesN_len]; omega
    simp [hlt, e1, hl, evalW, source]
    refine ⟨⟨by omega, by omega⟩, i + 1, by omega, by omega, ⟨rfl, ?_⟩, ?_⟩
    · rw [wrap64 ⟨by omega, by omega⟩]; rfl
    · rw [bytesN_take hlt]
  · have : i = s.size := by omega
    subst this
    have ht : (bytesN s).take s.size = bytesN s := by rw [← bytesN_len s, List.take_length]
    have hl : (rowsN (bytesN s)).length = s.size := by simp [rowsN, bytesN_len]
    have hm := fun k => specMix k (bytesN s) (bytesN_lt s) (by rw [bytesN_len]; omega)
    have ht2 : (rowsN (bytesN s)).take s.size = rowsN (bytesN s) := by rw [← hl, List.take_length]
    simp [ht, hl, ht2, rcall, hm, hp]
end Go.Ae.R1
