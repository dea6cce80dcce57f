/- Numbers and sectors drawn out of bytes. -/
import Derived.Test.YtbnfbihdcpdkkaaR4M1
import Derived.Test.YtbnfbihdcpdkkaaAeL6
namespace Go.Ae.R4
set_option linter.unusedSimpArgs false
set_option linter.unusedVariables false
def encU (b : UInt8) : List AV := [.int .u8 b.toNat]
def B (l : List UInt8) : ByteArray := ⟨l.toArray⟩
@[simp] theorem B_size (l : List UInt8) : (B l).size = l.length := by simp [B, ByteArray.size]
theorem bytesOf_rws : ∀ l : List UInt8, bytesOf (rws encU l) = some l
  | [] => rfl
  | b :: r => by
    have := bytesOf_rws r
    simp only [rws, List.map_cons, encU, bytesOf] at this ⊢
    rw [this]; simp
theorem wrap8 {n : Nat} (h : n < 256) : IntKind.wrap .u8 (n : Int) = ((UInt8.ofNat n).toNat : Int) := by
  simp only [IntKind.wrap, IntKind.signed, IntKind.bits]
  simp
/-- The source of a draw: its bytes, its place, its seed. -/
def srcB (l : List UInt8) (at_ : Nat) (sd : Int) : Blk := ⟨0, 3, true, false, [[.rd true (rws encU l), .int .i64 at_, .int .u64 sd]]⟩
theorem l00From (k : Nat) (l : List UInt8) : call code (k + 1) 31 [.rd true (rws encU l)] [] = some ⟨.ptr 0 0 0 [] 0 0, [srcB l 0 0], []⟩ := by
  refine call_run rfl fn31 rfl ?_
  simp [F31, srcB]
def sdN (sd b : Int) : Int := IntKind.wrap .u64 (IntKind.wrap .u64 (IntKind.wrap .u64 (sd * 6364136223846793005) + IntKind.wrap .u64 b) + 1442695040888963407)
theorem wu : ∀ v : Nat, v < 256 → IntKind.wrap .u64 (v : Int) = v ∧ IntKind.wrap .i64 (v : Int) = v := by decide +kernel
/-- The number drawn, the seed after it. -/
def nxV (l : List UInt8) (p : Nat) (sd : Int) : Nat := if h : p < l.length then l[p].toNat else (BitVec.ofInt 64 (gShr .u64 (sdN sd 0) 40) &&& BitVec.ofInt 64 255).toNat
def nxS (l : List UInt8) (p : Nat) (sd : Int) : Int := if h : p < l.length then sdN sd (l[p].toNat) else sdN sd 0
theorem and_lt (a : Int) : (BitVec.ofInt 64 a &&& BitVec.ofInt 64 255).toNat < 256 := by
  rw [BitVec.toNat_and]
  exact Nat.lt_of_le_of_lt Nat.and_le_right (by decide)
theorem and255 (a : Int) : IntKind.wrap .i64 (gAnd .u64 a 255) = ((BitVec.ofInt 64 a &&& BitVec.ofInt 64 255).toNat : Nat) := by
  have hlt := and_lt a
  show IntKind.wrap .i64 (IntKind.wrap .u64 ((BitVec.ofInt 64 a &&& BitVec.ofInt 64 255).toNat : Int)) = _
  rw [(wu _ hlt).1, (wu _ hlt).2]
theorem nxV_lt (l : List UInt8) (p : Nat) (sd : Int) : nxV l p sd < 256 := by
  unfold nxV
  split
  · exact UInt8.toNat_lt _
  · exact and_lt _
theorem next (l : List UInt8) (p : Nat) (sd : Int) (hp : p ≤ 1000000) (k lv : Nat) (E : List Heap) (S : Nat) (hlv : lv < E.length) (hg : (hat E lv).get S = some (some (srcB l p sd))) :
    call code (k + 1) 58 [.ptr (lv + 1) S 0 [] 0 0] E = some ⟨.int .i64 (nxV l p sd : Nat), [], E.modify lv fun h => h.set S (some (srcB l (p + 1) (nxS l p sd)))⟩ := by
  have hs : IntKind.wrap .i64 ((p : Int) + 1) = ((p + 1 : Nat) : Int) := by rw [wrap64 ⟨by omega, by omega⟩]; omega
  by_cases hlt : p < l.length
  · have hb : l[p].toNat < 256 := UInt8.toNat_lt _
    have w1 : IntKind.wrap .i64 ((l[p].toNat : Nat) : Int) = ((l[p].toNat : Nat) : Int) := wrap64 ⟨by omega, by omega⟩
    have e1 : nxV l p sd = l[p].toNat := by simp [nxV, hlt]
    have e2 : nxS l p sd = sdN sd l[p].toNat := by simp [nxS, hlt]
    rw [e1, e2]
    refine call_run rfl fn58 rfl ?_
    simp only [srcB] at hg
    have hm := fun f => hat_modify (e := E) hlv f
    have heu : encU l[p] = [.int .u8 ((l[p].toNat : Nat) : Int)] := rfl
    clear e1 e2
    generalize l[p].toNat = b at *
    have hle : ∀ q, q = p + 1 → q ≤ l.length := fun q h => by omega
    generalize hp1 : p + 1 = p1 at hs ⊢
    have hle1 := hle p1 hp1.symm
    simp [F58, hlv, hg, blk_succ, heap_succ, put_succ, hlt, hs, heu, hm, get_set, w1, modify_modify', set_set_same, hle1, srcB, sdN]
  · have he := and255 (gShr .u64 (sdN sd 0) 40)
    have e1 : nxV l p sd = (BitVec.ofInt 64 (gShr .u64 (sdN sd 0) 40) &&& BitVec.ofInt 64 255).toNat := by simp [nxV, hlt]
    have e2 : nxS l p sd = sdN sd 0 := by simp [nxS, hlt]
    rw [e1, e2]
    generalize (BitVec.ofInt 64 (gShr .u64 (sdN sd 0) 40) &&& BitVec.ofInt 64 255).toNat = v at *
    refine call_run rfl fn58 rfl ?_
    simp only [srcB] at hg
    have hm := fun f => hat_modify (e := E) hlv f
    have hle' : ¬ p + 1 ≤ l.length := by omega
    unfold sdN at he
    clear e1 e2
    generalize hp1 : p + 1 = p1 at *
    simp [F58, hlv, hg, blk_succ, heap_succ, put_succ, hlt, hs, hm, get_set, modify_modify', set_set_same, hle', srcB, sdN, he]
/-- pick: a number below n. -/
theorem pick (l : List UInt8) (p n : Nat) (sd : Int) (hp : p ≤ 1000000) (hn : 2 ≤ n ∧ n ≤ 200) (k lv : Nat) (E : List Heap) (S : Nat) (hlv : lv < E.length) (hg : (hat E lv).get S = some (some (srcB l p sd))) :
    call code (k + 2) 32 [.ptr (lv + 1) S 0 [] 0 0, .int .i64 n] E = some ⟨.int .i64 (nxV l p sd % n : Nat), [], E.modify lv fun h => h.set S (some (srcB l (p + 1) (nxS l p sd)))⟩ := by
  refine call_run rfl fn32 rfl ?_
  have hx := fun k l0 => next l p sd hp k (lv + 1) (l0 :: E) S (by simp; omega) (by simpa using hg)
  have d1 : decide ((n : Int) ≤ 1) = false := by simp; omega
  have d2 : decide ((200 : Int) < (n : Int)) = false := by simp; omega
  have n0 : ¬ n = 0 := by omega
  generalize nxV l p sd = x at *
  have e1 : (x : Int).tmod (n : Int) = ((x % n : Nat) : Int) := rfl
  generalize x % n = r at *
  simp [F32, d1, d2, n0, rcall58, hx, e1]
theorem pick1 (v : AV) (k : Nat) (E : List Heap) : call code (k + 2) 32 [v, .int .i64 1] E = some ⟨.int .i64 0, [], E⟩ := by
  refine call_run rfl fn32 rfl ?_
  simp [F32]
/-- A great number. -/
def bgV (l : List UInt8) (p : Nat) (sd : Int) : Nat := (nxV l p sd * 256 + nxV l (p + 1) (nxS l p sd)) % 257
theorem pick257 (l : List UInt8) (p : Nat) (sd : Int) (hp : p ≤ 100000) (k lv : Nat) (E : List Heap) (S : Nat) (hlv : lv < E.length) (hg : (hat E lv).get S = some (some (srcB l p sd))) :
    call code (k + 2) 32 [.ptr (lv + 1) S 0 [] 0 0, .int .i64 257] E = some ⟨.int .i64 (bgV l p sd : Nat), [], E.modify lv fun h => h.set S (some (srcB l (p + 2) (nxS l (p + 1) (nxS l p sd))))⟩ := by
  refine call_run rfl fn32 rfl ?_
  have hx := fun k l0 => next l p sd (by omega) k (lv + 1) (l0 :: E) S (by simp; omega) (by simpa using hg)
  have hx2 := fun k l0 => next l (p + 1) (nxS l p sd) (by omega) k (lv + 1) (l0 :: E.modify lv fun h => h.set S (some (srcB l (p + 1) (nxS l p sd)))) S (by simp; omega) (by rw [hat_cons, hat_modify hlv, get_set, if_pos rfl])
  have v1 := nxV_lt l p sd
  have v2 := nxV_lt l (p + 1) (nxS l p sd)
  unfold bgV
  generalize nxS l (p + 1) (nxS l p sd) = s2 at *
  generalize nxV l (p + 1) (nxS l p sd) = y at *
  generalize nxS l p sd = s1 at *
  generalize nxV l p sd = x at *
  have e1 : IntKind.wrap .i64 ((x : Int) * 256) = ((x * 256 : Nat) : Int) := by rw [wrap64 ⟨by omega, by omega⟩]; omega
  have e2 : IntKind.wrap .i64 (((x * 256 : Nat) : Int) + (y : Int)) = ((x * 256 + y : Nat) : Int) := by rw [wrap64 ⟨by omega, by omega⟩]; omega
  generalize x * 256 = x2 at *
  generalize x2 + y = z at *
  have e3 : (z : Int).tmod 257 = ((z % 257 : Nat) : Int) := rfl
  generalize z % 257 = w at *
  simp [F32, rcall58, hx, hx2, e1, e2, e3, modify_modify', set_set_same]
theorem one (l : List UInt8) (p n : Nat) (sd : Int) (hp : p ≤ 1000000) (hn : 2 ≤ n ∧ n ≤ 200) (k lv : Nat) (E : List Heap) (S : Nat) (hlv : lv < E.length) (hg : (hat E lv).get S = some (some (srcB l p sd))) :
    call code (k + 3) 38 [.ptr (lv + 1) S 0 [] 0 0, .int .i64 n] E = some ⟨.bool (nxV l p sd % n == 0), [], E.modify lv fun h => h.set S (some (srcB l (p + 1) (nxS l p sd)))⟩ := by
  refine call_run rfl fn38 rfl ?_
  have hx := fun k l0 => pick l p n sd hp hn k (lv + 1) (l0 :: E) S (by simp; omega) (by simpa using hg)
  generalize nxV l p sd % n = x at *
  have e : ((x : Int) == 0) = (x == 0) := by rw [Bool.eq_iff_iff]; simp
  simp [F38, rcall32, hx, e]
/-- A sector's bytes drawn: the bytes, the place, the seed. -/
structure Dr where
  bs : List UInt8
  p : Nat
  sd : Int
def secI (l : List UInt8) (x : Dr) : Nat → Dr
  | 0 => x
  | i + 1 => let y := secI l x i; ⟨y.bs.set (nxV l y.p y.sd % 64) (UInt8.ofNat (nxV l (y.p + 1) (nxS l y.p y.sd))), y.p + 1 + 1, nxS l (y.p + 1) (nxS l y.p y.sd)⟩
theorem secI_len (l : List UInt8) (x : Dr) : ∀ i, (secI l x i).bs.length = x.bs.length ∧ (secI l x i).p = x.p + 2 * i
  | 0 => ⟨rfl, rfl⟩
  | i + 1 => by
    obtain ⟨h1, h2⟩ := secI_len l x i
    simp only [secI, List.length_set, h1, h2]
    exact ⟨trivial, by omega⟩
def z64 : List UInt8 := List.replicate 64 0
theorem z64_len : z64.length = 64 := by simp [z64]
def sec (l : List UInt8) (p : Nat) (sd : Int) : Dr := secI l ⟨z64, p + 1, nxS l p sd⟩ (nxV l p sd % 4)
theorem sec_len (l : List UInt8) (p : Nat) (sd : Int) : (sec l p sd).bs.length = 64 ∧ (sec l p sd).p ≤ p + 10 := by
  obtain ⟨h1, h2⟩ := secI_len l ⟨z64, p + 1, nxS l p sd⟩ (nxV l p sd % 4)
  have : nxV l p sd % 4 < 4 := Nat.mod_lt _ (by omega)
  unfold sec
  rw [h1, h2]
  exact ⟨z64_len, by show p + 1 + _ ≤ _; omega⟩
set_option maxHeartbeats 4000000 in
theorem l14Sector (l : List UInt8) (p : Nat) (sd : Int) (hp : p ≤ 100000) (k lv : Nat) (E : List Heap) (S : Nat) (hlv : lv < E.length) (hg : (hat E lv).get S = some (some (srcB l p sd))) :
    call code (k + 3) 37 [.ptr (lv + 1) S 0 [] 0 0] E = some ⟨.str (B (sec l p sd).bs), [], E.modify lv fun h => h.set S (some (srcB l (sec l p sd).p (sec l p sd).sd))⟩ := by
  refine call_run rfl fn37 rfl ?_
  have hx := fun k l0 => pick l p 4 sd (by omega) (by omega) k (lv + 1) (l0 :: E) S (by simp; omega) (by simpa using hg)
  have hr : nxV l p sd % 4 < 4 := Nat.mod_lt _ (by omega)
  have c4 : ((4 : Nat) : Int) = 4 := rfl
  rw [c4] at hx
  unfold sec
  generalize nxV l p sd % 4 = r at *
  generalize nxS l p sd = sd0 at *
  have hz : List.replicate 64 [AV.int .u8 0] = rws encU z64 := by rw [z64, rws_rep]; rfl
  simp [F37, rcall32, hx, zeroRow]
  refine RunC_loop (fun i : Nat => ⟨tm 21 [(0, .ptr (lv + 1) S 0 [] 0 0), (3, .sl 0 65536 0 [] 0 64), (4, .int .i64 ((r - i : Nat) : Int))], [(65536, some ⟨0, 1, false, true, rws encU (secI l ⟨z64, p + 1, sd0⟩ i).bs⟩)], E.modify lv fun h => h.set S (some (srcB l (secI l ⟨z64, p + 1, sd0⟩ i).p (secI l ⟨z64, p + 1, sd0⟩ i).sd))⟩)
    (fun i => i ≤ r) (fun i => r - i) 0 (Nat.zero_le _) (by simp; omega) (by simp [tm, secI, ← hz]) fun i hi _ => ?_
  obtain ⟨hl1, hl2⟩ := secI_len l ⟨z64, p + 1, sd0⟩ i
  simp only [z64_len] at hl1
  by_cases hlt : i < r
  · have hn : secI l ⟨z64, p + 1, sd0⟩ (i + 1) = ⟨(secI l ⟨z64, p + 1, sd0⟩ i).bs.set (nxV l (secI l ⟨z64, p + 1, sd0⟩ i).p (secI l ⟨z64, p + 1, sd0⟩ i).sd % 64) (UInt8.ofNat (nxV l ((secI l ⟨z64, p + 1, sd0⟩ i).p + 1) (nxS l (secI l ⟨z64, p + 1, sd0⟩ i).p (secI l ⟨z64, p + 1, sd0⟩ i).sd))), (secI l ⟨z64, p + 1, sd0⟩ i).p + 1 + 1, nxS l ((secI l ⟨z64, p + 1, sd0⟩ i).p + 1) (nxS l (secI l ⟨z64, p + 1, sd0⟩ i).p (secI l ⟨z64, p + 1, sd0⟩ i).sd)⟩ := rfl
    generalize hy' : secI l ⟨z64, p + 1, sd0⟩ (i + 1) = y' at *
    generalize secI l ⟨z64, p + 1, sd0⟩ i = y at *
    obtain ⟨bs, q, s⟩ := y
    simp only at *
    have hlv1 : lv < (E.modify lv fun h => h.set S (some (srcB l q s))).length := by simpa using hlv
    have hg1 : (hat (E.modify lv fun h => h.set S (some (srcB l q s))) lv).get S = some (some (srcB l q s)) := by rw [hat_modify hlv, get_set, if_pos rfl]
    have hlv2 : lv < (E.modify lv fun h => h.set S (some (srcB l (q + 1) (nxS l q s)))).length := by simpa using hlv
    have hg2 : (hat (E.modify lv fun h => h.set S (some (srcB l (q + 1) (nxS l q s)))) lv).get S = some (some (srcB l (q + 1) (nxS l q s))) := by rw [hat_modify hlv, get_set, if_pos rfl]
    have hp1 := fun k l0 => pick l q 64 s (by omega) (by omega) k (lv + 1) (l0 :: E.modify lv fun h => h.set S (some (srcB l q s))) S (by simp; omega) (by simpa using hg1)
    have hn1 := fun k l0 => next l (q + 1) (nxS l q s) (by omega) k (lv + 1) (l0 :: E.modify lv fun h => h.set S (some (srcB l (q + 1) (nxS l q s)))) S (by simp; omega) (by simpa using hg2)
    have c64 : ((64 : Nat) : Int) = 64 := rfl
    rw [c64] at hp1
    have hv := nxV_lt l (q + 1) (nxS l q s)
    have hw := wrap8 hv
    have hi64 : nxV l q s % 64 < 64 := Nat.mod_lt _ (by omega)
    clear hg1 hg2 hlv1 hlv2 hx
    have hrl := rws_len (enc := encU) bs
    have hgt : ∀ j (h : j < (rws encU bs).length), ((rws encU bs)[j]'h).tail = [] := fun j h => by rw [rws_get]; rfl
    have hgl : ∀ j (h : j < (rws encU bs).length), ((rws encU bs)[j]'h).length = 1 := fun j h => by rw [rws_get]; rfl
    have hset : ∀ j (b : UInt8), (rws encU bs).set j [.int .u8 b.toNat] = rws encU (bs.set j b) := fun j b => rws_set (enc := encU) bs j b
    have hd : decide ((0 : Int) < ((r - i : Nat) : Int)) = true := by simp; omega
    have hsub : IntKind.wrap .i64 (((r - i : Nat) : Int) - 1) = ((r - (i + 1) : Nat) : Int) := by rw [wrap64 ⟨by omega, by omega⟩]; omega
    generalize nxS l (q + 1) (nxS l q s) = s2 at *
    generalize nxV l (q + 1) (nxS l q s) = v at *
    generalize nxS l q s = s1 at *
    generalize nxV l q s % 64 = j at *
    have hset1 := hset j (UInt8.ofNat v)
    generalize ((UInt8.ofNat v).toNat : Int) = cv at *
    generalize hR' : rws encU (bs.set j (UInt8.ofNat v)) = R' at *
    generalize hrr : ((r - (i + 1) : Nat) : Int) = rr at *
    generalize ((r - i : Nat) : Int) = r0 at *
    rw [hl1] at hrl
    generalize rws encU bs = R at *
    simp [tm, hd, rcall32, hp1, rcall58, hn1, hw, hrl, hi64, hset1, hgt, hgl, modify_modify', set_set_same, hsub]
    exact ⟨by omega, i + 1, by omega, by omega, hrr.symm, by rw [hy', hn, hR'], by rw [hy', hn]⟩
  · have : i = r := by omega
    subst this
    have hb : bytesOf (rws encU (secI l ⟨z64, p + 1, sd0⟩ i).bs) = some (secI l ⟨z64, p + 1, sd0⟩ i).bs := bytesOf_rws _
    have hrl := rws_len (enc := encU) (secI l ⟨z64, p + 1, sd0⟩ i).bs
    rw [hl1] at hrl
    have ht : (rws encU (secI l ⟨z64, p + 1, sd0⟩ i).bs).take 64 = rws encU (secI l ⟨z64, p + 1, sd0⟩ i).bs := List.take_of_length_le (by omega)
    simp [tm, hb, ht, hrl, B]
end Go.Ae.R4
namespace Go.Ae.R4
set_option linter.unusedSimpArgs false
set_option linter.unusedVariables false
theorem newDisk (k : Nat) (n : Nat) (hn : 1 ≤ n ∧ n ≤ 5) : call code (k + 2) 59 [.int .i64 n] [] = some ⟨.tup [.agg [.sl 0 0 0 [] 0 n, .sl 0 1 0 [] 0 0], .int .i64 0], [⟨0, 1, false, true, rowsT (List.replicate n (B z64))⟩, ⟨0, 2, false, true, []⟩], []⟩ := by
  refine call_run rfl fn59 rfl ?_
  have h1 := fun k => l00In k n 1 1200
  have c : inB n 1 1200 = true := by simp [inB]; omega
  rw [c] at h1
  have hz : List.replicate 64 [AV.int .u8 0] = rws encU z64 := by rw [z64, rws_rep]; rfl
  have hb := bytesOf_rws z64
  have hrl := rws_len (enc := encU) z64
  rw [z64_len] at hrl
  have ht : (rws encU z64).take 64 = rws encU z64 := List.take_of_length_le (by omega)
  have hB : (⟨z64.toArray⟩ : ByteArray) = B z64 := rfl
  generalize hR : rws encU z64 = R at *
  generalize hZ : B z64 = Z at *
  simp [F59, rcall39, h1, zeroRow, hz, hR, hb, hrl, ht, hB, hZ]
  refine RunC_loop (fun i : Nat => ⟨tm 26 [(0, .int .i64 n), (2, .ptr 0 0 0 [] 0 0), (4, .ptr 0 196864 0 [] 0 0), (5, .str Z), (6, .int .i64 i)],
      [(0, some ⟨0, 2, true, false, [[.sl 0 1 0 [] 0 0, .sl 0 2 0 [] 0 0]]⟩), (1, some ⟨0, 1, false, true, []⟩), (2, some ⟨0, 2, false, true, []⟩), (196864, some ⟨0, 2, true, false, [[.sl 0 197121 0 [] 0 i, .sl 0 197122 0 [] 0 0]]⟩), (196865, some ⟨0, 1, false, true, []⟩), (196866, some ⟨0, 2, false, true, []⟩), (197121, some ⟨0, 1, false, true, rowsT (List.replicate i Z)⟩), (197122, some ⟨0, 2, false, true, []⟩), (262144, some ⟨0, 1, false, true, R⟩)], []⟩)
    (fun i => i ≤ n) (fun i => n - i) 0 (Nat.zero_le _) (by simp; omega) (by simp [tm, rowsT]) fun i hi _ => ?_
  by_cases hlt : i < n
  · have hs := idx_succ' hlt (by omega)
    have hl1 : (rowsT (List.replicate i Z)).length = i := by rw [rowsT_len]; simp
    have happ : rowsT (List.replicate i Z) ++ [[.str Z]] = rowsT (List.replicate (i + 1) Z) := by rw [List.replicate_succ']; simp [rowsT]
    generalize hR' : rowsT (List.replicate (i + 1) Z) = R' at *
    generalize rowsT (List.replicate i Z) = R0 at *
    simp [tm, hlt, hs, evalW, source, hl1, happ, storeM]
    exact ⟨by omega, i + 1, by omega, by omega, rfl, rfl, by rw [hR']⟩
  · have : i = n := by omega
    subst this
    have hl1 : (rowsT (List.replicate i Z)).length = i := by rw [rowsT_len]; simp
    simp [tm, hl1, storeM]
theorem hgE {E : List Heap} {lv S : Nat} {b : Blk} (hlv : lv < E.length) : (hat (E.modify lv fun h => h.set S (some b)) lv).get S = some (some b) := by rw [hat_modify hlv, get_set, if_pos rfl]
theorem hlE {E : List Heap} {lv S : Nat} {b : Blk} (hlv : lv < E.length) : lv < (E.modify lv fun h => h.set S (some b)).length := by simpa using hlv
/-- A disk drawn so far, the source's place and seed. -/
structure DD where
  ss : List ByteArray
  ps : List (Int × ByteArray)
  p : Nat
  sd : Int
def ssI (l : List UInt8) (x : DD) : Nat → DD
  | 0 => x
  | i + 1 => let y := ssI l x i; ⟨y.ss.set i (B (sec l y.p y.sd).bs), y.ps, (sec l y.p y.sd).p, (sec l y.p y.sd).sd⟩
theorem ssI_ok (l : List UInt8) (x : DD) : ∀ i, (ssI l x i).ss.length = x.ss.length ∧ (ssI l x i).ps = x.ps ∧ (ssI l x i).p ≤ x.p + 10 * i ∧ ∀ j, j < i → j < x.ss.length → ∃ t, (ssI l x i).ss[j]? = some t ∧ t.size = 64
  | 0 => ⟨rfl, rfl, Nat.le_refl _, fun j h => absurd h (by omega)⟩
  | i + 1 => by
    obtain ⟨h1, h2, h3, h4⟩ := ssI_ok l x i
    obtain ⟨k1, k2⟩ := sec_len l (ssI l x i).p (ssI l x i).sd
    refine ⟨by simp [ssI, h1], h2, by simp only [ssI]; omega, fun j hj hx => ?_⟩
    simp only [ssI]
    rw [List.getElem?_set]
    by_cases hij : i = j
    · rw [if_pos hij, if_pos (by omega)]; exact ⟨_, rfl, by simpa using k1⟩
    · rw [if_neg hij]; exact h4 j (by omega) hx
/-- The place drawn for a wait, the source behind it. -/
def atV (l : List UInt8) (n p : Nat) (sd : Int) : Nat := if n ≤ 1 then 0 else nxV l p sd % n
def atP (n p : Nat) : Nat := if n ≤ 1 then p else p + 1
def atS (l : List UInt8) (n p : Nat) (sd : Int) : Int := if n ≤ 1 then sd else nxS l p sd
theorem pickN (l : List UInt8) (p n : Nat) (sd : Int) (hp : p ≤ 1000000) (hn : 1 ≤ n ∧ n ≤ 200) (k lv : Nat) (E : List Heap) (S : Nat) (hlv : lv < E.length) :
    call code (k + 2) 32 [.ptr (lv + 1) S 0 [] 0 0, .int .i64 n] (E.modify lv fun h => h.set S (some (srcB l p sd))) = some ⟨.int .i64 (atV l n p sd : Nat), [], E.modify lv fun h => h.set S (some (srcB l (atP n p) (atS l n p sd)))⟩ := by
  unfold atV atP atS
  by_cases h : n ≤ 1
  · have : n = 1 := by omega
    subst this
    rw [if_pos h, if_pos h, if_pos h]
    exact pick1 _ k _
  · rw [if_neg h, if_neg h, if_neg h]
    rw [pick l p n sd hp (by omega) k lv _ S (hlE hlv) (hgE hlv), modify_modify']
    simp only [set_set_same]
def psI (l : List UInt8) (n : Nat) (x : DD) : Nat → DD
  | 0 => x
  | i + 1 => let y := psI l n x i; ⟨y.ss, y.ps ++ [(((atV l n y.p y.sd : Nat) : Int), B (sec l (atP n y.p) (atS l n y.p y.sd)).bs)], (sec l (atP n y.p) (atS l n y.p y.sd)).p, (sec l (atP n y.p) (atS l n y.p y.sd)).sd⟩
theorem psI_ok (l : List UInt8) (n : Nat) (x : DD) : ∀ i, (psI l n x i).ss = x.ss ∧ (psI l n x i).ps.length = x.ps.length + i ∧ (psI l n x i).p ≤ x.p + 11 * i
  | 0 => ⟨rfl, rfl, Nat.le_refl _⟩
  | i + 1 => by
    obtain ⟨h1, h2, h3⟩ := psI_ok l n x i
    obtain ⟨k1, k2⟩ := sec_len l (atP n (psI l n x i).p) (atS l n (psI l n x i).p (psI l n x i).sd)
    have : atP n (psI l n x i).p ≤ (psI l n x i).p + 1 := by unfold atP; split <;> omega
    refine ⟨h1, by simp [psI, h2]; omega, by simp only [psI]; omega⟩
/-- Waits till there are many. -/
def mnI (l : List UInt8) : Nat → DD → DD
  | 0, y => y
  | f + 1, y => if y.ps.length < 599 + nxV l y.p y.sd % 3 then mnI l f ⟨y.ss, y.ps ++ [(0, y.ss.getD 0 ByteArray.empty)], y.p + 1, nxS l y.p y.sd⟩ else ⟨y.ss, y.ps, y.p + 1, nxS l y.p y.sd⟩
theorem mnI_ok (l : List UInt8) : ∀ f y, y.ps.length ≤ 602 → (mnI l f y).ss = y.ss ∧ (mnI l f y).ps.length ≤ 602
  | 0, y, h => ⟨rfl, h⟩
  | f + 1, y, h => by
    unfold mnI
    split
    · rename_i hc
      have : nxV l y.p y.sd % 3 < 3 := Nat.mod_lt _ (by omega)
      exact mnI_ok l f _ (by simp; omega)
    · exact ⟨rfl, h⟩
/-- The heap of a disk that is drawn. -/
def hD (a : AV) (ra rb : Nat) (R1 R2 : List (List AV)) : Heap := [(0, some ⟨0, 2, true, false, [[.sl 0 1 0 [] 0 0, .sl 0 2 0 [] 0 0]]⟩), (1, some ⟨0, 1, false, true, []⟩), (2, some ⟨0, 2, false, true, []⟩), (66304, some ⟨0, 1, false, true, R1⟩), (66305, some ⟨0, 2, false, true, R2⟩), (67328, some ⟨0, 2, true, false, [[.sl 0 66304 0 [] 0 ra, .sl 0 66305 0 [] 0 rb]]⟩), (67329, some ⟨0, 1, false, true, []⟩), (67330, some ⟨0, 2, false, true, []⟩)]
/-- The disk drawn. -/
def d0 (l : List UInt8) (p : Nat) (sd : Int) : DD := ⟨List.replicate (1 + nxV l p sd % 5) (B z64), [], p + 1, nxS l p sd⟩
def d1 (l : List UInt8) (p : Nat) (sd : Int) : DD := ssI l (d0 l p sd) (1 + nxV l p sd % 5)
def d2 (l : List UInt8) (p : Nat) (sd : Int) : DD := let y := d1 l p sd; psI l (1 + nxV l p sd % 5) ⟨y.ss, [], y.p + 1, nxS l y.p y.sd⟩ (nxV l y.p y.sd % 5)
def tl (s : ByteArray) : ByteArray := s.extract 1 s.size
def dEnd (l : List UInt8) (v : Nat) (y : DD) : DD :=
  if v = 0 then let s := sec l (y.p + 1) (nxS l y.p y.sd); ⟨y.ss, y.ps ++ [(((nxV l y.p y.sd % 7 : Nat) : Int) - 1, (B s.bs).extract (nxV l s.p s.sd % 2) 64)], s.p + 1, nxS l s.p s.sd⟩
  else if v = 1 then ⟨y.ss.set 0 (tl (y.ss.getD 0 ByteArray.empty)), y.ps, y.p, y.sd⟩
  else if v = 2 then ⟨[], y.ps, y.p, y.sd⟩
  else if v = 3 then mnI l 603 y
  else y
def dsk3 (l : List UInt8) (p : Nat) (sd : Int) : DD := let y := d2 l p sd; dEnd l (nxV l y.p y.sd % 20) ⟨y.ss, y.ps, y.p + 1, nxS l y.p y.sd⟩
theorem dsk3_len (l : List UInt8) (p : Nat) (sd : Int) : (dsk3 l p sd).ss.length ≤ 5 ∧ (dsk3 l p sd).ps.length ≤ 602 := by
  have hr : nxV l p sd % 5 < 5 := Nat.mod_lt _ (by omega)
  obtain ⟨a1, a2, a3, a4⟩ := ssI_ok l (d0 l p sd) (1 + nxV l p sd % 5)
  have h5 : nxV l (d1 l p sd).p (d1 l p sd).sd % 5 < 5 := Nat.mod_lt _ (by omega)
  obtain ⟨b1, b2, b3⟩ := psI_ok l (1 + nxV l p sd % 5) ⟨(d1 l p sd).ss, [], (d1 l p sd).p + 1, nxS l (d1 l p sd).p (d1 l p sd).sd⟩ (nxV l (d1 l p sd).p (d1 l p sd).sd % 5)
  have e1 : (d2 l p sd).ss.length ≤ 5 := by
    unfold d2; rw [b1]; show (d1 l p sd).ss.length ≤ 5
    unfold d1; rw [a1]; simp [d0]; omega
  have e2 : (d2 l p sd).ps.length ≤ 4 := by
    unfold d2; rw [b2]; simp; omega
  unfold dsk3 dEnd
  generalize d2 l p sd = y at *
  obtain ⟨ss, ps, q, s⟩ := y
  simp only at *
  split
  · simp; omega
  · split
    · simp; omega
    · split
      · simp; omega
      · split
        · obtain ⟨m1, m2⟩ := mnI_ok l 603 ⟨ss, ps, q + 1, nxS l q s⟩ (by simp; omega)
          rw [m1]; simp only; omega
        · simp; omega
end Go.Ae.R4
