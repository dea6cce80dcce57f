/- Matrices that come in: measured, copied, looked at. -/
import Derived.Test.YtnfghcflpnlbiaaC3M1
namespace Go.Ae.C3
set_option linter.unusedSimpArgs false
set_option linter.unusedVariables false
@[simp] theorem evalW_callv (O : Oracle) (md : Nat → Mode) (st : St) (base : Nat) (x : X) (args : List X) (fl : Bool) : evalW O md st base (.callv x args fl) = match evalX st x with
    | .fn f caps => match md f with
      | .val => match callVal O st base f (evalXs st args ++ caps) fl with
        | some (v, n) => match addNews st n with
          | some st' => some (v, st')
          | none => none
        | none => none
      | .view => match callView O st f (evalXs st args ++ caps) with
        | some v => some (v, st)
        | none => none
      | .ref => callRef O st base f (evalXs st args ++ caps) fl
    | _ => none := rfl
theorem between (k : Nat) (a b c : Int) : call code (k + 1) 86 [.int .i64 a, .int .i64 b, .int .i64 c] [] = some ⟨.bool (inB a b c), [], []⟩ := by
  refine call_run rfl fn86 rfl ?_
  simp [F86]
  repeat' ((first | apply RunG_ncase | apply RunB_ncase | apply RunG_case | apply RunB_case | apply RunP_case) <;> intro h <;> simp [h])
  all_goals (simp_all [inB] <;> omega)
theorem l00In (k : Nat) (a b c : Int) : call code (k + 1) 77 [.int .i64 a, .int .i64 b, .int .i64 c] [] = some ⟨.bool (inB a b c), [], []⟩ := by
  refine call_run rfl fn77 rfl ?_
  simp [F77]
  repeat' ((first | apply RunG_ncase | apply RunB_ncase | apply RunG_case | apply RunB_case | apply RunP_case) <;> intro h <;> simp [h])
  all_goals (simp_all [inB] <;> omega)
def elB (c : Int) : Bool := inB c 0 255
end Go.Ae.C3
namespace Go.Ae.C3
set_option linter.unusedSimpArgs false
set_option linter.unusedVariables false
def castL (l : List Nat) : List Int := l.map fun (n : Nat) => (n : Int)
theorem getD_lt {an : List Nat} (h : ∀ x ∈ an, x < 256) (i : Nat) : an.getD i 0 < 256 := by
  by_cases hi : i < an.length
  · rw [List.getD_eq_getElem?_getD, List.getElem?_eq_getElem hi]; exact h _ (List.getElem_mem hi)
  · rw [List.getD_eq_getElem?_getD, List.getElem?_eq_none (by omega)]; decide
theorem castL_len (l : List Nat) : (castL l).length = l.length := by simp [castL]
theorem rowsC_at {an : List Nat} {i : Nat} (h : i < an.length) (h' : i < (rowsZ (castL an)).length) : (rowsZ (castL an))[i]'h' = [.int .i64 ((an.getD i 0 : Nat) : Int)] := by
  simp [rowsZ, castL, List.getD_eq_getElem?_getD, List.getElem?_eq_getElem h]
def matB (h w : Int) (ws : List Int) : Bool := inB h 1 8 && inB w 1 8 && ((ws.length : Int) == h * w) && ws.all elB
theorem hw_wrap {h w : Int} (h1 : inB h 1 8 = true) (h2 : inB w 1 8 = true) : IntKind.wrap .i64 (h * w) = h * w := by
  simp [inB] at h1 h2
  have b1 : h * w ≤ 8 * 8 := Int.mul_le_mul h1.2 h2.2 (by omega) (by omega)
  have b2 : 0 ≤ h * w := Int.mul_nonneg (by omega) (by omega)
  exact wrap64 ⟨by omega, by omega⟩
def prt (an : List Nat) (A B : Nat) : List Nat := (an.take B).drop A
theorem prt_get {an : List Nat} {A B j : Nat} (h : A + j < B) : (prt an A B).getD j 0 = an.getD (A + j) 0 := by
  simp [prt, List.getD_eq_getElem?_getD, List.getElem?_drop, List.getElem?_take_of_lt h]
theorem prt_len {an : List Nat} {A B : Nat} (h : B ≤ an.length) : (prt an A B).length = B - A := by simp [prt]; omega
theorem prt_rows (an : List Nat) (A B : Nat) : ((rowsZ (castL an)).take B).drop A = rowsZ (castL (prt an A B)) := by simp [rowsZ, castL, prt, List.map_take, List.map_drop]
/-- A row of a matrix that is only read. -/
theorem rowRd (k : Nat) (l : Heap) (h : Int) (w i : Nat) (an : List Nat) (hw : w ≤ 1000) (hi : (i + 1) * w ≤ an.length) (hn : an.length ≤ 4000000) (hi2 : i ≤ 1000) :
    call code (k + 1) 155 [.agg [.int .i64 h, .int .i64 w, .rd true (rowsZ (castL an))], .int .i64 i] [l] = some ⟨.rd true (rowsZ (castL (prt an (i * w) ((i + 1) * w)))), [], [l]⟩ := by
  refine call_run rfl fn155 rfl ?_
  have hm1 : i * w ≤ 4000000 := by rw [Nat.add_mul] at hi; omega
  have e1 : IntKind.wrap .i64 ((i : Int) * (w : Int)) = ((i * w : Nat) : Int) := by rw [show (i : Int) * (w : Int) = ((i * w : Nat) : Int) by simp, wrap64 ⟨by omega, by omega⟩]
  have e2 : IntKind.wrap .i64 ((i : Int) + 1) = ((i + 1 : Nat) : Int) := by rw [wrap64 ⟨by omega, by omega⟩]; omega
  have e3 : IntKind.wrap .i64 (((i + 1 : Nat) : Int) * (w : Int)) = (((i + 1) * w : Nat) : Int) := by rw [show ((i + 1 : Nat) : Int) * (w : Int) = (((i + 1) * w : Nat) : Int) by simp, wrap64 ⟨by omega, by omega⟩]
  have hle : i * w ≤ (i + 1) * w := by rw [Nat.add_mul]; omega
  have hrl : (rowsZ (castL an)).length = an.length := by rw [rowsZ_len, castL_len]
  have hp := prt_rows an (i * w) ((i + 1) * w)
  have hall : (rowsZ (castL an)).all (fun r => r.length == 1) = true := by simp [rowsZ]
  generalize hA : i * w = A at *
  generalize hB : (i + 1) * w = B at *
  generalize hI : i + 1 = I1 at *
  simp [F155, e1, e2, e3, hrl, hi, hle, hp]
  try (intro x hx; simp [rowsZ] at hx; obtain ⟨a, _, rfl⟩ := hx; rfl)
end Go.Ae.C3
namespace Go.Ae.C3
set_option linter.unusedSimpArgs false
set_option linter.unusedVariables false
def B (l : List UInt8) : ByteArray := ⟨l.toArray⟩
@[simp] theorem B_size (l : List UInt8) : (B l).size = l.length := by simp [B, ByteArray.size]
@[simp] theorem B_list (l : List UInt8) : (B l).data.toList = l := by simp [B]
theorem B_eta (s : ByteArray) : B s.data.toList = s := by cases s; simp [B]
theorem B_get (l : List UInt8) (i : Nat) : (B l)[i]? = l[i]? := by rw [bget, B_list]
@[simp] theorem B_at (l : List UInt8) (i : Nat) (h : i < (B l).size) : (B l)[i]'h = l[i]'(by simpa using h) := rfl
theorem B_mk (l : List UInt8) : (⟨l.toArray⟩ : ByteArray) = B l := rfl
def encB (b : UInt8) : List AV := [.int .u8 b.toNat]
theorem bytesOf_rws : ∀ l : List UInt8, bytesOf (rws encB l) = some l
  | [] => rfl
  | b :: l => by
    have h := bytesOf_rws l
    rw [rws_cons]
    simp [encB, bytesOf, h]
def scl (a : Nat) (l : List UInt8) : List UInt8 := l.map fun c => UInt8.ofNat (gm a c.toNat)
def sm (l r : List UInt8) : List UInt8 := List.zipWith (· ^^^ ·) l r
@[simp] theorem scl_len (a : Nat) (l : List UInt8) : (scl a l).length = l.length := by simp [scl]
theorem sm_len {l r : List UInt8} (h : l.length = r.length) : (sm l r).length = l.length := by simp [sm, h]
theorem gXor8 (a b : UInt8) : gXor .u8 a.toNat b.toNat = ((a ^^^ b).toNat : Int) := by
  have ha := a.toNat_lt
  have hb := b.toNat_lt
  have h : a.toNat ^^^ b.toNat < 2 ^ 8 := Nat.xor_lt_two_pow (by omega) (by omega)
  have e : (BitVec.ofInt 8 (a.toNat : Int) ^^^ BitVec.ofInt 8 (b.toNat : Int)).toNat = a.toNat ^^^ b.toNat := by
    rw [BitVec.toNat_xor, BitVec.ofInt_natCast, BitVec.ofInt_natCast, BitVec.toNat_ofNat, BitVec.toNat_ofNat, Nat.mod_eq_of_lt (by omega), Nat.mod_eq_of_lt (by omega)]
  show IntKind.wrap .u8 ((BitVec.ofInt 8 (a.toNat : Int) ^^^ BitVec.ofInt 8 (b.toNat : Int)).toNat : Int) = _
  rw [e, UInt8.toNat_xor]
  simp only [IntKind.wrap, IntKind.signed, IntKind.bits]
  simp
  omega
theorem wrap8 {n : Nat} (h : n < 256) : IntKind.wrap .u8 (n : Int) = ((UInt8.ofNat n).toNat : Int) := by
  simp only [IntKind.wrap, IntKind.signed, IntKind.bits]
  simp
theorem wrap64u (c : UInt8) : IntKind.wrap .i64 (c.toNat : Int) = ((c.toNat : Nat) : Int) := by
  have := c.toNat_lt
  rw [wrap64 ⟨by omega, by omega⟩]
theorem summed (k : Nat) (l r : List UInt8) (hl : l.length = r.length) (hn : l.length ≤ 1048576) : call code (k + 1) 147 [.str (B l), .str (B r)] [] = some ⟨.str (B (sm l r)), [], []⟩ := by
  refine call_run rfl fn147 rfl ?_
  have hz : List.replicate l.length [AV.int .u8 0] = rws encB (List.replicate l.length 0) := by simp [rws_rep, encB]
  have hrl : (List.replicate l.length (0 : UInt8)).length = l.length := by simp
  simp [F147, zeroRow, hz]
  refine ⟨by omega, ?_⟩
  let f : Nat → UInt8 := fun i => (sm l r).getD i 0
  refine RunC_loop (fun i : Nat => ⟨tm 28 [(0, .str (B l)), (1, .str (B r)), (5, .sl 0 66048 0 [] 0 l.length), (11, .int .i64 l.length), (12, .int .i64 i)], [(66048, some ⟨0, 1, false, true, rws encB (mix f (List.replicate l.length 0) i)⟩)], []⟩)
    (fun i => i ≤ l.length) (fun i => l.length - i) 0 (Nat.zero_le _) (by simp; omega) (by simp [tm, mix_zero]) fun i hi _ => ?_
  have hml : (mix f (List.replicate l.length 0) i).length = l.length := by rw [mix_len (by rw [hrl]; exact hi), hrl]
  by_cases hlt : i < l.length
  · have hs := idx_succ' hlt (by omega)
    have hri : i < r.length := by omega
    have hf : f i = l[i] ^^^ r[i] := by
      show (sm l r).getD i 0 = _
      rw [List.getD_eq_getElem?_getD, List.getElem?_eq_getElem (by rw [sm_len hl]; exact hlt)]
      simp [sm]
    have hset : (rws encB (mix f (List.replicate l.length 0) i)).set i (encB (f i)) = rws encB (mix f (List.replicate l.length 0) (i + 1)) := by rw [rws_set, mix_set (by rw [hrl]; exact hlt)]
    rw [hf] at hset
    simp only [encB] at hset
    have hx := gXor8 l[i] r[i]
    generalize l[i] ^^^ r[i] = x at hx hset
    simp [tm, hlt, hri, hml, B_get, hs, hx, hset, encB]
    exact ⟨i + 1, by omega, by omega, by simp⟩
  · have : i = l.length := by omega
    subst this
    have hall : mix f (List.replicate l.length 0) l.length = sm l r := by
      have := mix_all (f := f) (ws := List.replicate l.length (0 : UInt8))
      rw [hrl] at this
      rw [this]
      apply List.ext_getElem
      · simp [sm_len hl]
      · intro j h1 h2
        simp [f, List.getD_eq_getElem?_getD, List.getElem?_eq_getElem h2]
    have htk : (rws encB (sm l r)).take l.length = rws encB (sm l r) := List.take_of_length_le (by simp [sm_len hl])
    have hb := bytesOf_rws (sm l r)
    have hsl := sm_len hl
    simp [tm, hall, htk, hb, hsl, B_mk]
theorem appB (l : List UInt8) (x : UInt8) : rws encB l ++ [[.int .u8 x.toNat]] = rws encB (l ++ [x]) := by simp [rws, encB]
theorem l02Sum (k : Nat) (l r : List UInt8) (hl : l.length = r.length) (hn : l.length ≤ 1048576) : call code (k + 1) 146 [.str (B l), .str (B r)] [] = some ⟨.str (B (sm l r)), [], []⟩ := by
  refine call_run rfl fn146 rfl ?_
  simp [F146]
  refine RunC_loop (fun i : Nat => ⟨tm 26 [(0, .str (B l)), (1, .str (B r)), (5, .sl 0 65536 0 [] 0 i), (6, .int .i64 i)], [(65536, some ⟨0, 1, false, true, rws encB ((sm l r).take i)⟩)], []⟩)
    (fun i => i ≤ l.length) (fun i => l.length - i) 0 (Nat.zero_le _) (by simp; omega) (by simp [tm]) fun i hi _ => ?_
  have hsl := sm_len hl
  have hml : ((sm l r).take i).length = i := by rw [List.length_take, hsl]; omega
  by_cases hlt : i < l.length
  · have hs := idx_succ' hlt (by omega)
    have hri : i < r.length := by omega
    have hx := gXor8 l[i] r[i]
    have hap := appB ((sm l r).take i) (l[i] ^^^ r[i])
    rw [show (sm l r).take i ++ [l[i] ^^^ r[i]] = (sm l r).take (i + 1) by rw [List.take_succ_eq_append_getElem (by omega)]; simp [sm]] at hap
    generalize l[i] ^^^ r[i] = x at hx hap
    simp [tm, hlt, hri, hml, B_get, hs, hx, evalW, source, hap]
    exact ⟨by omega, i + 1, by omega, by omega, by simp, rfl⟩
  · have : i = l.length := by omega
    subst this
    have htk : (sm l r).take l.length = sm l r := List.take_of_length_le (by omega)
    have htk2 : (rws encB (sm l r)).take l.length = rws encB (sm l r) := List.take_of_length_le (by simp [hsl])
    have hb := bytesOf_rws (sm l r)
    simp [tm, hsl, htk, htk2, hb, B_mk]
theorem gm_zero_left (b : Nat) : ∀ n, gml n 0 b 0 = 0
  | 0 => rfl
  | n + 1 => by
    have : dbl 0 = 0 := by decide
    simp only [gml, this]
    have h2 : (if b % 2 = 1 then 0 ^^^ 0 else 0) = 0 := by split <;> rfl
    rw [h2]; exact gm_zero_left (b / 2) n
theorem scl_zero (l : List UInt8) : scl 0 l = List.replicate l.length 0 := by
  unfold scl
  have : ∀ c : UInt8, UInt8.ofNat (gm 0 c.toNat) = 0 := fun c => by unfold gm; rw [gm_zero_left]; rfl
  simp only [this]
  rw [List.map_const']
theorem scl_at (a : Nat) (l : List UInt8) (i : Nat) (h : i < l.length) : (scl a l).getD i 0 = UInt8.ofNat (gm a l[i].toNat) := by
  rw [List.getD_eq_getElem?_getD, List.getElem?_eq_getElem (by simpa using h)]
  simp [scl]
theorem scaled (k : Nat) (a : Nat) (l : List UInt8) (ha : a < 256) (hn : l.length ≤ 1048576) : call code (k + 3) 159 [.int .i64 a, .str (B l)] [] = some ⟨.str (B (scl a l)), [], []⟩ := by
  refine call_run rfl fn159 rfl ?_
  have hz : List.replicate l.length [AV.int .u8 0] = rws encB (List.replicate l.length 0) := by simp [rws_rep, encB]
  have hrl : (List.replicate l.length (0 : UInt8)).length = l.length := by simp
  simp [F159, zeroRow, hz]
  refine ⟨by omega, ?_⟩
  let f : Nat → UInt8 := fun i => (scl a l).getD i 0
  refine RunC_loop (fun i : Nat => ⟨tm 28 [(0, .int .i64 a), (1, .str (B l)), (5, .sl 0 66048 0 [] 0 l.length), (11, .int .i64 l.length), (12, .int .i64 i)], [(66048, some ⟨0, 1, false, true, rws encB (mix f (List.replicate l.length 0) i)⟩)], []⟩)
    (fun i => i ≤ l.length) (fun i => l.length - i) 0 (Nat.zero_le _) (by simp; omega) (by simp [tm, mix_zero]) fun i hi _ => ?_
  have hml : (mix f (List.replicate l.length 0) i).length = l.length := by rw [mix_len (by rw [hrl]; exact hi), hrl]
  by_cases hlt : i < l.length
  · have hs := idx_succ' hlt (by omega)
    have hf : f i = UInt8.ofNat (gm a l[i].toNat) := scl_at a l i hlt
    have hset : (rws encB (mix f (List.replicate l.length 0) i)).set i (encB (f i)) = rws encB (mix f (List.replicate l.length 0) (i + 1)) := by rw [rws_set, mix_set (by rw [hrl]; exact hlt)]
    rw [hf] at hset
    simp only [encB] at hset
    have hb := l[i].toNat_lt
    have ht := fun k => times k a l[i].toNat ha hb
    have hw := wrap8 (gm_lt (b := l[i].toNat) ha)
    have hu := wrap64u l[i]
    rw [← hw] at hset
    generalize gm a l[i].toNat = g at *
    simp [tm, hlt, hml, hs, hset, encB, rcall158, ht, hu]
    exact ⟨i + 1, by omega, by omega, by simp⟩
  · have : i = l.length := by omega
    subst this
    have hall : mix f (List.replicate l.length 0) l.length = scl a l := by
      have := mix_all (f := f) (ws := List.replicate l.length (0 : UInt8))
      rw [hrl] at this
      rw [this]
      apply List.ext_getElem
      · simp
      · intro j h1 h2
        simp [f, List.getD_eq_getElem?_getD, List.getElem?_eq_getElem h2]
    have htk : (rws encB (scl a l)).take l.length = rws encB (scl a l) := List.take_of_length_le (by simp)
    have hb := bytesOf_rws (scl a l)
    simp [tm, hall, htk, hb, B_mk]
theorem l02Scale (k : Nat) (a : Nat) (l : List UInt8) (ha : a < 256) (hn : l.length ≤ 1048576) : call code (k + 3) 160 [.int .i64 a, .str (B l)] [] = some ⟨.str (B (scl a l)), [], []⟩ := by
  refine call_run rfl fn160 rfl ?_
  simp [F160]
  refine RunC_loop (fun i : Nat => ⟨tm 26 [(0, .int .i64 a), (1, .str (B l)), (5, .sl 0 65536 0 [] 0 i), (6, .int .i64 i)], [(65536, some ⟨0, 1, false, true, rws encB ((scl a l).take i)⟩)], []⟩)
    (fun i => i ≤ l.length) (fun i => l.length - i) 0 (Nat.zero_le _) (by simp; omega) (by simp [tm]) fun i hi _ => ?_
  have hml : ((scl a l).take i).length = i := by rw [List.length_take, scl_len]; omega
  by_cases hlt : i < l.length
  · have hs := idx_succ' hlt (by omega)
    have hb := l[i].toNat_lt
    have ht := fun k => l02Times k a l[i].toNat ha hb
    have hw := wrap8 (gm_lt (b := l[i].toNat) ha)
    have hu := wrap64u l[i]
    have hap := appB ((scl a l).take i) (UInt8.ofNat (gm a l[i].toNat))
    rw [show (scl a l).take i ++ [UInt8.ofNat (gm a l[i].toNat)] = (scl a l).take (i + 1) by rw [List.take_succ_eq_append_getElem (by simpa using hlt)]; simp [scl]] at hap
    rw [← hw] at hap
    generalize gm a l[i].toNat = g at *
    simp [tm, hlt, hml, hs, evalW, source, hap, rcall162, ht, hu]
    exact ⟨by omega, i + 1, by omega, by omega, by simp, rfl⟩
  · have : i = l.length := by omega
    subst this
    have htk : (scl a l).take l.length = scl a l := List.take_of_length_le (by simp)
    have htk2 : (rws encB (scl a l)).take l.length = rws encB (scl a l) := List.take_of_length_le (by simp)
    have hb := bytesOf_rws (scl a l)
    simp [tm, htk, htk2, hb, B_mk]
end Go.Ae.C3
namespace Go.Ae.C3
set_option linter.unusedSimpArgs false
set_option linter.unusedVariables false
theorem repeatL_zero : ∀ n, Lib.repeatL [0] n = List.replicate n 0
  | 0 => rfl
  | n + 1 => by rw [Lib.repeatL, repeatL_zero n]; rfl
theorem zeros (k n : Nat) (hn : n ≤ 1048576) : call code (k + 1) 135 [.str ⟨#[0]⟩, .int .i64 n] [] = some ⟨.str (B (List.replicate n 0)), [], []⟩ := by
  refine nat135 k _ _ _ _ ?_
  have hsz : (ByteArray.mk #[(0 : UInt8)]).size = 1 := rfl
  simp only [natRepeat]
  rw [if_pos ⟨by omega, by omega, by rw [hsz]; simp; omega⟩]
  simp only [repB, Int.toNat_natCast]
  rw [repeatL_zero]; rfl
def acc (an : List Nat) (w : Nat) (ls : List (List UInt8)) (n i : Nat) : Nat → List UInt8
  | 0 => List.replicate n 0
  | k + 1 => sm (acc an w ls n i k) (scl (an.getD (i * w + k) 0) (ls.getD k []))
def pcs (an : List Nat) (h w : Nat) (ls : List (List UInt8)) (n : Nat) : List (List UInt8) := (List.range h).map fun i => acc an w ls n i w
theorem acc_len {an : List Nat} {w : Nat} {ls : List (List UInt8)} {n i : Nat} (hl : ∀ l ∈ ls, l.length = n) : ∀ k, k ≤ ls.length → (acc an w ls n i k).length = n
  | 0, _ => by simp [acc]
  | k + 1, h => by
    have h1 := acc_len (an := an) (w := w) (i := i) hl k (by omega)
    have h2 : (ls.getD k []).length = n := by
      rw [List.getD_eq_getElem?_getD, List.getElem?_eq_getElem (by omega)]; exact hl _ (List.getElem_mem _)
    rw [acc, sm_len (by rw [scl_len, h1, h2]), h1]
theorem pcs_len (an : List Nat) (h w : Nat) (ls : List (List UInt8)) (n : Nat) : (pcs an h w ls n).length = h := by simp [pcs]
def rowsS (ls : List (List UInt8)) : List (List AV) := rws encT (ls.map B)
@[simp] theorem rowsS_len (ls : List (List UInt8)) : (rowsS ls).length = ls.length := by simp [rowsS]
theorem rowsS_at {ls : List (List UInt8)} {i : Nat} (h : i < ls.length) (h' : i < (rowsS ls).length) : (rowsS ls)[i]'h' = [.str (B (ls.getD i []))] := by
  simp [rowsS, encT, List.getD_eq_getElem?_getD, h]
theorem rowsS_app (ls : List (List UInt8)) (l : List UInt8) : rowsS ls ++ [[.str (B l)]] = rowsS (ls ++ [l]) := by simp [rowsS, rws, encT]
theorem pcs_app (an : List Nat) (i w : Nat) (ls : List (List UInt8)) (n : Nat) : pcs an i w ls n ++ [acc an w ls n i w] = pcs an (i + 1) w ls n := by simp [pcs, List.range_succ]
theorem rowsS_get {ls : List (List UInt8)} {i : Nat} (h : i < ls.length) (h' : i < (rowsS ls).length) : (rowsS ls)[i]'h' = [.str (B ls[i])] := by
  simp [rowsS, encT]
theorem acc_step {an : List Nat} {w : Nat} {ls : List (List UInt8)} {n i q : Nat} (h : q < ls.length) : sm (acc an w ls n i q) (scl (an.getD (i * w + q) 0) ls[q]) = acc an w ls n i (q + 1) := by
  rw [acc, List.getD_eq_getElem?_getD (l := ls), List.getElem?_eq_getElem h]; rfl
set_option maxHeartbeats 4000000 in
theorem pieces (k : Nat) (h w : Nat) (an : List Nat) (ls : List (List UInt8)) (n : Nat) (hh : h ≤ 8) (hw : 1 ≤ w ∧ w ≤ 8) (la : an.length = h * w) (ha : ∀ x ∈ an, x < 256) (lw : ls.length = w) (hl : ∀ l ∈ ls, l.length = n) (hn : n ≤ 1048576) :
    call code (k + 4) 131 [.agg [.int .i64 h, .int .i64 w, .rd true (rowsZ (castL an))], .rd true (rowsS ls)] [] = some ⟨.sl 0 0 0 [] 0 h, [⟨0, 1, false, true, rowsS (pcs an h w ls n)⟩], []⟩ := by
  refine call_run rfl fn131 rfl ?_
  have hw64 : h * w ≤ 64 := Nat.mul_le_mul hh hw.2
  simp [F131]
  refine RunC_loop (fun i : Nat => ⟨tm 44 [(1, .rd true (rowsS ls)), (2, .ptr 0 0 0 [] 0 0), (5, .sl 0 65536 0 [] 0 i), (11, .int .i64 h), (12, .int .i64 i)], [(0, some ⟨0, 3, true, false, [[.int .i64 h, .int .i64 w, .rd true (rowsZ (castL an))]]⟩), (256, some ⟨0, 1, false, true, []⟩), (65536, some ⟨0, 1, false, true, rowsS (pcs an i w ls n)⟩)], []⟩)
    (fun i => i ≤ h) (fun i => h - i) 0 (Nat.zero_le _) (by simp; omega) (by simp [tm, pcs, rowsS]) fun i hi _ => ?_
  by_cases hlt : i < h
  · have hs := idx_succ' hlt (by omega)
    have hmul : (i + 1) * w ≤ h * w := Nat.mul_le_mul_right _ hlt
    have hrow := fun k l => rowRd k l h w i an (by omega) (by omega) (by omega) (by omega)
    have hpl : (prt an (i * w) ((i + 1) * w)).length = w := by rw [prt_len (by omega), Nat.add_mul]; omega
    have hrl : (rowsZ (castL (prt an (i * w) ((i + 1) * w)))).length = w := by rw [rowsZ_len, castL_len, hpl]
    have h0 : (0 : Nat) < ls.length := by omega
    have hg0 : ∀ h, (rowsS ls)[0]'h = [.str (B ls[0])] := fun h => rowsS_get h0 h
    have hl0 : ls[0].length = n := hl _ (List.getElem_mem _)
    have hz := fun k => zeros k n hn
    simp [tm, hlt, h0, hg0, hl0, hz, rcall135, rcall155, hrow, hrl, pcs_len]
    refine RunC_loop (fun q : Nat => ⟨tm 44 [(1, .rd true (rowsS ls)), (2, .ptr 0 0 0 [] 0 0), (5, .sl 0 65536 0 [] 0 i), (7, .str (B (acc an w ls n i q))), (11, .int .i64 h), (12, .int .i64 i), (22, .rd true (rowsZ (castL (prt an (i * w) ((i + 1) * w))))), (23, .int .i64 w), (24, .int .i64 q)],
        [(0, some ⟨0, 3, true, false, [[.int .i64 h, .int .i64 w, .rd true (rowsZ (castL an))]]⟩), (256, some ⟨0, 1, false, true, []⟩), (65536, some ⟨0, 1, false, true, rowsS (pcs an i w ls n)⟩)], []⟩)
      (fun q => q ≤ w) (fun q => w - q) 0 (Nat.zero_le _) (by simp; omega) (by simp [tm, acc]) fun q hq _ => ?_
    by_cases hlq : q < w
    · have hsq := idx_succ' hlq (by omega)
      have hq' : q < ls.length := by omega
      have hgq : ∀ h, (rowsS ls)[q]'h = [.str (B ls[q])] := fun h => rowsS_get hq' h
      have hlq2 : ls[q].length = n := hl _ (List.getElem_mem _)
      have hpg : (prt an (i * w) ((i + 1) * w)).getD q 0 = an.getD (i * w + q) 0 := prt_get (by rw [Nat.add_mul]; omega)
      have hgr : ∀ h, (rowsZ (castL (prt an (i * w) ((i + 1) * w))))[q]'h = [.int .i64 ((an.getD (i * w + q) 0 : Nat) : Int)] := fun h => by rw [← hpg]; exact rowsC_at (by rw [hpl]; exact hlq) h
      have hlt8 := getD_lt ha (i * w + q)
      have hal := acc_len (an := an) (w := w) (i := i) hl q (by omega)
      have hstep := acc_step (an := an) (w := w) (n := n) (i := i) hq'
      generalize an.getD (i * w + q) 0 = e at *
      generalize ls[q] = lq at *
      have hsc := fun k => scaled k e lq hlt8 (by omega)
      have hsm := fun k => summed k (acc an w ls n i q) (scl e lq) (by rw [scl_len, hal, hlq2]) (by omega)
      rw [hstep] at hsm
      simp [tm, hlq, hq', hsq, hgq, hgr, hrl, rcall159, hsc, rcall147, hsm]
      exact ⟨q + 1, by omega, by omega, by simp, rfl⟩
    · have : q = w := by omega
      subst this
      have hap := rowsS_app (pcs an i q ls n) (acc an q ls n i q)
      rw [pcs_app] at hap
      simp [tm, hs, evalW, source, pcs_len, hap]
      exact ⟨by omega, i + 1, by omega, by omega, by simp, rfl⟩
  · have : i = h := by omega
    subst this
    simp [tm, pcs_len]
end Go.Ae.C3
namespace Go.Ae.C3
set_option linter.unusedSimpArgs false
set_option linter.unusedVariables false
set_option maxHeartbeats 4000000 in
theorem l03Pieces (k : Nat) (h w : Nat) (an : List Nat) (ls : List (List UInt8)) (n : Nat) (hh : h ≤ 8) (hw : 1 ≤ w ∧ w ≤ 8) (la : an.length = h * w) (ha : ∀ x ∈ an, x < 256) (lw : ls.length = w) (hl : ∀ l ∈ ls, l.length = n) (hn : n ≤ 1048576) :
    call code (k + 4) 132 [.agg [.int .i64 h, .int .i64 w, .rd true (rowsZ (castL an))], .rd true (rowsS ls)] [] = some ⟨.sl 0 0 0 [] 0 h, [⟨0, 1, false, true, rowsS (pcs an h w ls n)⟩], []⟩ := by
  refine call_run rfl fn132 rfl ?_
  have hw64 : h * w ≤ 64 := Nat.mul_le_mul hh hw.2
  simp [F132]
  refine RunC_loop (fun i : Nat => ⟨tm 48 [(1, .rd true (rowsS ls)), (2, .ptr 0 0 0 [] 0 0), (5, .sl 0 65536 0 [] 0 i), (6, .int .i64 i)], [(0, some ⟨0, 3, true, false, [[.int .i64 h, .int .i64 w, .rd true (rowsZ (castL an))]]⟩), (256, some ⟨0, 1, false, true, []⟩), (65536, some ⟨0, 1, false, true, rowsS (pcs an i w ls n)⟩)], []⟩)
    (fun i => i ≤ h) (fun i => h - i) 0 (Nat.zero_le _) (by simp; omega) (by simp [tm, pcs, rowsS]) fun i hi _ => ?_
  by_cases hlt : i < h
  · have hs := idx_succ' hlt (by omega)
    have hmul : (i + 1) * w ≤ h * w := Nat.mul_le_mul_right _ hlt
    have h0 : (0 : Nat) < ls.length := by omega
    have hg0 : ∀ h, (rowsS ls)[0]'h = [.str (B ls[0])] := fun h => rowsS_get h0 h
    have hl0 : ls[0].length = n := hl _ (List.getElem_mem _)
    have hz := fun k => l02Scale k 0 ls[0] (by omega) (by omega)
    rw [scl_zero, hl0] at hz
    have hrl : (rowsZ (castL an)).length = h * w := by rw [rowsZ_len, castL_len, la]
    simp at hz
    simp [tm, hlt, h0, hg0, hl0, hz, rcall160]
    refine RunC_loop (fun q : Nat => ⟨tm 48 [(1, .rd true (rowsS ls)), (2, .ptr 0 0 0 [] 0 0), (5, .sl 0 65536 0 [] 0 i), (6, .int .i64 i), (7, .str (B (acc an w ls n i q))), (8, .int .i64 q)],
        [(0, some ⟨0, 3, true, false, [[.int .i64 h, .int .i64 w, .rd true (rowsZ (castL an))]]⟩), (256, some ⟨0, 1, false, true, []⟩), (65536, some ⟨0, 1, false, true, rowsS (pcs an i w ls n)⟩)], []⟩)
      (fun q => q ≤ w) (fun q => w - q) 0 (Nat.zero_le _) (by simp; omega) (by simp [tm, acc]) fun q hq _ => ?_
    by_cases hlq : q < w
    · have hsq := idx_succ' hlq (by omega)
      have hq' : q < ls.length := by omega
      have hgq : ∀ h, (rowsS ls)[q]'h = [.str (B ls[q])] := fun h => rowsS_get hq' h
      have hlq2 : ls[q].length = n := hl _ (List.getElem_mem _)
      have hbound : i * w + q < an.length := by rw [la]; rw [Nat.add_mul] at hmul; omega
      have hgr : ∀ h, (rowsZ (castL an))[i * w + q]'h = [.int .i64 ((an.getD (i * w + q) 0 : Nat) : Int)] := fun h => rowsC_at hbound h
      have e1 : IntKind.wrap .i64 ((i : Int) * (w : Int)) = ((i * w : Nat) : Int) := by rw [show (i : Int) * (w : Int) = ((i * w : Nat) : Int) by simp, wrap64 ⟨by omega, by omega⟩]
      have e2 : IntKind.wrap .i64 (((i * w : Nat) : Int) + (q : Int)) = ((i * w + q : Nat) : Int) := by rw [wrap64 ⟨by omega, by omega⟩]; omega
      have hlt8 := getD_lt ha (i * w + q)
      have hal := acc_len (an := an) (w := w) (i := i) hl q (by omega)
      have hstep := acc_step (an := an) (w := w) (n := n) (i := i) hq'
      rw [la] at hbound
      generalize an.getD (i * w + q) 0 = e at *
      generalize ls[q] = lq at *
      generalize hiw : i * w = iw at *
      generalize hiq : iw + q = iq at *
      generalize hhw : h * w = hwm at *
      have hsc := fun k => l02Scale k e lq hlt8 (by omega)
      have hsm := fun k => l02Sum k (acc an w ls n i q) (scl e lq) (by rw [scl_len, hal, hlq2]) (by omega)
      rw [hstep] at hsm
      simp [tm, hlq, hq', hsq, hgq, hgr, hrl, e1, e2, hbound, rcall160, hsc, rcall146, hsm]
      exact ⟨q + 1, by omega, by omega, by simp, rfl⟩
    · have : q = w := by omega
      subst this
      have hap := rowsS_app (pcs an i q ls n) (acc an q ls n i q)
      rw [pcs_app] at hap
      simp [tm, hs, evalW, source, pcs_len, hap]
      exact ⟨by omega, i + 1, by omega, by omega, by simp, rfl⟩
  · have : i = h := by omega
    subst this
    simp [tm, pcs_len]
end Go.Ae.C3
