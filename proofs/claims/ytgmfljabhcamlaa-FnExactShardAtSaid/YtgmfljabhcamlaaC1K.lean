/- Texts of bytes: multiplied, added, twice told. -/
import Derived.Test.YtgmfljabhcamlaaC1J
namespace Go.Ae.C1
set_option linter.unusedSimpArgs false
set_option linter.unusedVariables false
def B (l : List UInt8) : ByteArray := ⟨l.toArray⟩
@[simp] theorem B_size (l : List UInt8) : (B l).size = l.length := by simp [B, ByteArray.size]
@[simp] theorem B_list (l : List UInt8) : (B l).data.toList = l := by simp [B]
theorem B_eta (s : ByteArray) : B s.data.toList = s := by cases s; simp [B]
theorem B_get (l : List UInt8) (i : Nat) : (B l)[i]? = l[i]? := by rw [bget, B_list]
@[simp] theorem B_at (l : List UInt8) (i : Nat) (h : i < (B l).size) : (B l)[i]'h = l[i]'(by simpa using h) := rfl
theorem B_mk (l : List UInt8) : (⟨l.toArray⟩ : ByteArray) = B l := rfl
def encB (b : UInt8) : List AV := [.int .u8 b.toNat]
theorem bytesOf_rws : ∀ l : List UInt8, bytesOf (rws encB l) = some l
  | [] => rfl
  | b :: l => by
    have h := bytesOf_rws l
    rw [rws_cons]
    simp [encB, bytesOf, h]
def scl (a : Nat) (l : List UInt8) : List UInt8 := l.map fun c => UInt8.ofNat (gm a c.toNat)
def sm (l r : List UInt8) : List UInt8 := List.zipWith (· ^^^ ·) l r
@[simp] theorem scl_len (a : Nat) (l : List UInt8) : (scl a l).length = l.length := by simp [scl]
theorem sm_len {l r : List UInt8} (h : l.length = r.length) : (sm l r).length = l.length := by simp [sm, h]
theorem gXor8 (a b : UInt8) : gXor .u8 a.toNat b.toNat = ((a ^^^ b).toNat : Int) := by
  have ha := a.toNat_lt
  have hb := b.toNat_lt
  have h : a.toNat ^^^ b.toNat < 2 ^ 8 := Nat.xor_lt_two_pow (by omega) (by omega)
  have e : (BitVec.ofInt 8 (a.toNat : Int) ^^^ BitVec.ofInt 8 (b.toNat : Int)).toNat = a.toNat ^^^ b.toNat := by
    rw [BitVec.toNat_xor, BitVec.ofInt_natCast, BitVec.ofInt_natCast, BitVec.toNat_ofNat, BitVec.toNat_ofNat, Nat.mod_eq_of_lt (by omega), Nat.mod_eq_of_lt (by omega)]
  show IntKind.wrap .u8 ((BitVec.ofInt 8 (a.toNat : Int) ^^^ BitVec.ofInt 8 (b.toNat : Int)).toNat : Int) = _
  rw [e, UInt8.toNat_xor]
  simp only [IntKind.wrap, IntKind.signed, IntKind.bits]
  simp
  omega
theorem wrap8 {n : Nat} (h : n < 256) : IntKind.wrap .u8 (n : Int) = ((UInt8.ofNat n).toNat : Int) := by
  simp only [IntKind.wrap, IntKind.signed, IntKind.bits]
  simp
theorem wrap64u (c : UInt8) : IntKind.wrap .i64 (c.toNat : Int) = ((c.toNat : Nat) : Int) := by
  have := c.toNat_lt
  rw [wrap64 ⟨by omega, by omega⟩]
theorem summed (k : Nat) (l r : List UInt8) (hl : l.length = r.length) (hn : l.length ≤ 1048576) : call code (k + 1) 135 [.str (B l), .str (B r)] [] = some ⟨.str (B (sm l r)), [], []⟩ := by
  refine call_run rfl fn135 rfl ?_
  have hz : List.replicate l.length [AV.int .u8 0] = rws encB (List.replicate l.length 0) := by simp [rws_rep, encB]
  have hrl : (List.replicate l.length (0 : UInt8)).length = l.length := by simp
  simp [F135, zeroRow, hz]
  refine ⟨by omega, ?_⟩
  let f : Nat → UInt8 := fun i => (sm l r).getD i 0
  refine RunC_loop (fun i : Nat => ⟨tm 28 [(0, .str (B l)), (1, .str (B r)), (5, .sl 0 66048 0 [] 0 l.length), (11, .int .i64 l.length), (12, .int .i64 i)], [(66048, some ⟨0, 1, false, true, rws encB (mix f (List.replicate l.length 0) i)⟩)], []⟩)
    (fun i => i ≤ l.length) (fun i => l.length - i) 0 (Nat.zero_le _) (by simp; omega) (by simp [tm, mix_zero]) fun i hi _ => ?_
  have hml : (mix f (List.replicate l.length 0) i).length = l.length := by rw [mix_len (by rw [hrl]; exact hi), hrl]
  by_cases hlt : i < l.length
  · have hs := idx_succ' hlt (by omega)
    have hri : i < r.length := by omega
    have hf : f i = l[i] ^^^ r[i] := by
      show (sm l r).getD i 0 = _
      rw [List.getD_eq_getElem?_getD, List.getElem?_eq_getElem (by rw [sm_len hl]; exact hlt)]
      simp [sm]
    have hset : (rws encB (mix f (List.replicate l.length 0) i)).set i (encB (f i)) = rws encB (mix f (List.replicate l.length 0) (i + 1)) := by rw [rws_set, mix_set (by rw [hrl]; exact hlt)]
    rw [hf] at hset
    simp only [encB] at hset
    have hx := gXor8 l[i] r[i]
    generalize l[i] ^^^ r[i] = x at hx hset
    simp [tm, hlt, hri, hml, B_get, hs, hx, hset, encB]
    exact ⟨i + 1, by omega, by omega, by simp⟩
  · have : i = l.length := by omega
    subst this
    have hall : mix f (List.replicate l.length 0) l.length = sm l r := by
      have := mix_all (f := f) (ws := List.replicate l.length (0 : UInt8))
      rw [hrl] at this
      rw [this]
      apply List.ext_getElem
      · simp [sm_len hl]
      · intro j h1 h2
        simp [f, List.getD_eq_getElem?_getD, List.getElem?_eq_getElem h2]
    have htk : (rws encB (sm l r)).take l.length = rws encB (sm l r) := List.take_of_length_le (by simp [sm_len hl])
    have hb := bytesOf_rws (sm l r)
    have hsl := sm_len hl
    simp [tm, hall, htk, hb, hsl, B_mk]
theorem appB (l : List UInt8) (x : UInt8) : rws encB l ++ [[.int .u8 x.toNat]] = rws encB (l ++ [x]) := by simp [rws, encB]
theorem l02Sum (k : Nat) (l r : List UInt8) (hl : l.length = r.length) (hn : l.length ≤ 1048576) : call code (k + 1) 130 [.str (B l), .str (B r)] [] = some ⟨.str (B (sm l r)), [], []⟩ := by
  refine call_run rfl fn130 rfl ?_
  simp [F130]
  refine RunC_loop (fun i : Nat => ⟨tm 26 [(0, .str (B l)), (1, .str (B r)), (5, .sl 0 65536 0 [] 0 i), (6, .int .i64 i)], [(65536, some ⟨0, 1, false, true, rws encB ((sm l r).take i)⟩)], []⟩)
    (fun i => i ≤ l.length) (fun i => l.length - i) 0 (Nat.zero_le _) (by simp; omega) (by simp [tm]) fun i hi _ => ?_
  have hsl := sm_len hl
  have hml : ((sm l r).take i).length = i := by rw [List.length_take, hsl]; omega
  by_cases hlt : i < l.length
  · have hs := idx_succ' hlt (by omega)
    have hri : i < r.length := by omega
    have hx := gXor8 l[i] r[i]
    have hap := appB ((sm l r).take i) (l[i] ^^^ r[i])
    rw [show (sm l r).take i ++ [l[i] ^^^ r[i]] = (sm l r).take (i + 1) by rw [List.take_succ_eq_append_getElem (by omega)]; simp [sm]] at hap
    generalize l[i] ^^^ r[i] = x at hx hap
    simp [tm, hlt, hri, hml, B_get, hs, hx, evalW, source, hap]
    exact ⟨by omega, i + 1, by omega, by omega, by simp, rfl⟩
  · have : i = l.length := by omega
    subst this
    have htk : (sm l r).take l.length = sm l r := List.take_of_length_le (by omega)
    have htk2 : (rws encB (sm l r)).take l.length = rws encB (sm l r) := List.take_of_length_le (by simp [hsl])
    have hb := bytesOf_rws (sm l r)
    simp [tm, hsl, htk, htk2, hb, B_mk]
theorem gm_zero_left (b : Nat) : ∀ n, gml n 0 b 0 = 0
  | 0 => rfl
  | n + 1 => by
    have : dbl 0 = 0 := by decide
    simp only [gml, this]
    have h2 : (if b % 2 = 1 then 0 ^^^ 0 else 0) = 0 := by split <;> rfl
    rw [h2]; exact gm_zero_left (b / 2) n
theorem scl_zero (l : List UInt8) : scl 0 l = List.replicate l.length 0 := by
  unfold scl
  have : ∀ c : UInt8, UInt8.ofNat (gm 0 c.toNat) = 0 := fun c => by unfold gm; rw [gm_zero_left]; rfl
  simp only [this]
  rw [List.map_const']
theorem scl_at (a : Nat) (l : List UInt8) (i : Nat) (h : i < l.length) : (scl a l).getD i 0 = UInt8.ofNat (gm a l[i].toNat) := by
  rw [List.getD_eq_getElem?_getD, List.getElem?_eq_getElem (by simpa using h)]
  simp [scl]
theorem scaled (k : Nat) (a : Nat) (l : List UInt8) (ha : a < 256) (hn : l.length ≤ 1048576) : call code (k + 3) 136 [.int .i64 a, .str (B l)] [] = some ⟨.str (B (scl a l)), [], []⟩ := by
  refine call_run rfl fn136 rfl ?_
  have hz : List.replicate l.length [AV.int .u8 0] = rws encB (List.replicate l.length 0) := by simp [rws_rep, encB]
  have hrl : (List.replicate l.length (0 : UInt8)).length = l.length := by simp
  simp [F136, zeroRow, hz]
  refine ⟨by omega, ?_⟩
  let f : Nat → UInt8 := fun i => (scl a l).getD i 0
  refine RunC_loop (fun i : Nat => ⟨tm 28 [(0, .int .i64 a), (1, .str (B l)), (5, .sl 0 66048 0 [] 0 l.length), (11, .int .i64 l.length), (12, .int .i64 i)], [(66048, some ⟨0, 1, false, true, rws encB (mix f (List.replicate l.length 0) i)⟩)], []⟩)
    (fun i => i ≤ l.length) (fun i => l.length - i) 0 (Nat.zero_le _) (by simp; omega) (by simp [tm, mix_zero]) fun i hi _ => ?_
  have hml : (mix f (List.replicate l.length 0) i).length = l.length := by rw [mix_len (by rw [hrl]; exact hi), hrl]
  by_cases hlt : i < l.length
  · have hs := idx_succ' hlt (by omega)
    have hf : f i = UInt8.ofNat (gm a l[i].toNat) := scl_at a l i hlt
    have hset : (rws encB (mix f (List.replicate l.length 0) i)).set i (encB (f i)) = rws encB (mix f (List.replicate l.length 0) (i + 1)) := by rw [rws_set, mix_set (by rw [hrl]; exact hlt)]
    rw [hf] at hset
    simp only [encB] at hset
    have hb := l[i].toNat_lt
    have ht := fun k => times k a l[i].toNat ha hb
    have hw := wrap8 (gm_lt (b := l[i].toNat) ha)
    have hu := wrap64u l[i]
    rw [← hw] at hset
    generalize gm a l[i].toNat = g at *
    simp [tm, hlt, hml, hs, hset, encB, rcall158, ht, hu]
    exact ⟨i + 1, by omega, by omega, by simp⟩
  · have : i = l.length := by omega
    subst this
    have hall : mix f (List.replicate l.length 0) l.length = scl a l := by
      have := mix_all (f := f) (ws := List.replicate l.length (0 : UInt8))
      rw [hrl] at this
      rw [this]
      apply List.ext_getElem
      · simp
      · intro j h1 h2
        simp [f, List.getD_eq_getElem?_getD, List.getElem?_eq_getElem h2]
    have htk : (rws encB (scl a l)).take l.length = rws encB (scl a l) := List.take_of_length_le (by simp)
    have hb := bytesOf_rws (scl a l)
    simp [tm, hall, htk, hb, B_mk]
theorem l02Scale (k : Nat) (a : Nat) (l : List UInt8) (ha : a < 256) (hn : l.length ≤ 1048576) : call code (k + 3) 129 [.int .i64 a, .str (B l)] [] = some ⟨.str (B (scl a l)), [], []⟩ := by
  refine call_run rfl fn129 rfl ?_
  simp [F129]
  refine RunC_loop (fun i : Nat => ⟨tm 26 [(0, .int .i64 a), (1, .str (B l)), (5, .sl 0 65536 0 [] 0 i), (6, .int .i64 i)], [(65536, some ⟨0, 1, false, true, rws encB ((scl a l).take i)⟩)], []⟩)
    (fun i => i ≤ l.length) (fun i => l.length - i) 0 (Nat.zero_le _) (by simp; omega) (by simp [tm]) fun i hi _ => ?_
  have hml : ((scl a l).take i).length = i := by rw [List.length_take, scl_len]; omega
  by_cases hlt : i < l.length
  · have hs := idx_succ' hlt (by omega)
    have hb := l[i].toNat_lt
    have ht := fun k => l02Times k a l[i].toNat ha hb
    have hw := wrap8 (gm_lt (b := l[i].toNat) ha)
    have hu := wrap64u l[i]
    have hap := appB ((scl a l).take i) (UInt8.ofNat (gm a l[i].toNat))
    rw [show (scl a l).take i ++ [UInt8.ofNat (gm a l[i].toNat)] = (scl a l).take (i + 1) by rw [List.take_succ_eq_append_getElem (by simpa using hlt)]; simp [scl]] at hap
    rw [← hw] at hap
    generalize gm a l[i].toNat = g at *
    simp [tm, hlt, hml, hs, evalW, source, hap, rcall151, ht, hu]
    exact ⟨by omega, i + 1, by omega, by omega, by simp, rfl⟩
  · have : i = l.length := by omega
    subst this
    have htk : (scl a l).take l.length = scl a l := List.take_of_length_le (by simp)
    have htk2 : (rws encB (scl a l)).take l.length = rws encB (scl a l) := List.take_of_length_le (by simp)
    have hb := bytesOf_rws (scl a l)
    simp [tm, htk, htk2, hb, B_mk]
end Go.Ae.C1
