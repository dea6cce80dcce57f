/- Marks: texts that bear a number. -/
import Derived.Test.YtbnfbihdcpdkkaaR3F
namespace Go.Ae.R3
set_option linter.unusedSimpArgs false
set_option linter.unusedVariables false
def dig (n : Nat) : ByteArray := ⟨#[UInt8.ofNat (48 + n % 10)]⟩
def mdig (n : Nat) (t : ByteArray) : ByteArray := if h : n = 0 then t else mdig (n / 10) (dig n ++ t)
termination_by n
decreasing_by omega
def mtext (c : Int) : ByteArray := ⟨#[109]⟩ ++ mdig c.toNat ByteArray.empty
theorem markText (k : Nat) (c : Nat) (h : 1 ≤ c ∧ c ≤ 8000000) : call code (k + 1) 57 [.int .i64 c] [] = some ⟨.str (mtext c), [], []⟩ := by
  refine call_run rfl fn57 rfl ?_
  have hd : ¬ c = 0 := by omega
  simp [F57, hd]
  refine RunC_loop (fun q : Nat × ByteArray => ⟨[.int .i64 q.1, .undef, .undef, .str q.2] ++ List.replicate 16 .undef, [], []⟩)
    (fun q => q.2.size + q.1 ≤ 8000000 ∧ mdig q.1 q.2 = mdig c ByteArray.empty) (fun q => q.1) (c, ByteArray.empty) ⟨by simp; omega, rfl⟩ (by simp; omega) (by simp) fun q hq _ => ?_
  obtain ⟨n, t⟩ := q
  obtain ⟨h1, h2⟩ := hq
  simp only at h1 h2
  rw [mdig] at h2
  by_cases h0 : n = 0
  · subst h0
    simp at h2
    subst h2
    have hz : (mdig c ByteArray.empty).size ≤ 8000000 := by omega
    simp [mtext]
    have : ByteArray.size ⟨#[109]⟩ = 1 := rfl
    omega
  · rw [dif_neg h0] at h2
    have hgt : 0 < n := by omega
    have e1 : (n : Int).tmod 10 = ((n % 10 : Nat) : Int) := rfl
    have e2 : (n : Int).tdiv 10 = ((n / 10 : Nat) : Int) := rfl
    have e3 : IntKind.wrap .i64 (48 + ((n % 10 : Nat) : Int)) = 48 + ((n % 10 : Nat) : Int) := wrap64 ⟨by omega, by omega⟩
    have e4 : IntKind.wrap .u8 (48 + ((n % 10 : Nat) : Int)) = 48 + ((n % 10 : Nat) : Int) := by
      simp only [IntKind.wrap, IntKind.signed, IntKind.bits, IntKind.min, IntKind.max]
      simp
      omega
    have e5 : IntKind.wrap .i64 ((n / 10 : Nat) : Int) = ((n / 10 : Nat) : Int) := wrap64 ⟨by omega, by omega⟩
    have hb : bytesOf [[AV.int .u8 (48 + ((n % 10 : Nat) : Int))]] = some [UInt8.ofNat (48 + n % 10)] := by
      simp only [bytesOf]
      rw [show (48 + ((n % 10 : Nat) : Int)).toNat = 48 + n % 10 by omega]
    have hsz : (dig n).size = 1 := rfl
    have hds : ByteArray.mk #[48 + UInt8.ofNat (n % 10)] = dig n := by unfold dig; rw [UInt8.ofNat_add]; rfl
    generalize hm : n % 10 = m at *
    generalize hq : n / 10 = q at *
    simp [hgt, e1, e2, e3, e4, e5, hb, hds, hsz]
    exact ⟨by omega, q, dig n ++ t, ⟨by rw [ByteArray.size_append, hsz]; omega, h2⟩, by omega, rfl, rfl⟩
@[simp] theorem heap_succ (ts : List AV) (l : Heap) (e : List Heap) (n : Nat) : St.heap ⟨ts, l, e⟩ (n + 1) = e.getD n [] := rfl
@[simp] theorem blk_one (ts : List AV) (l : Heap) (e : List Heap) (s : Nat) : St.blk ⟨ts, l, e⟩ 1 s = (match (e.getD 0 []).get s with | some (some b) => some b | _ => none) := rfl
@[simp] theorem blk_two (ts : List AV) (l : Heap) (e : List Heap) (s : Nat) : St.blk ⟨ts, l, e⟩ 2 s = (match (e.getD 1 []).get s with | some (some b) => some b | _ => none) := rfl
@[simp] theorem put_one (ts : List AV) (l l0 : Heap) (e : List Heap) (s : Nat) (b : Option Blk) : St.put ⟨ts, l, l0 :: e⟩ 1 s b = ⟨ts, l, l0.set s b :: e⟩ := rfl
@[simp] theorem put_two (ts : List AV) (l l0 l1 : Heap) (e : List Heap) (s : Nat) (b : Option Blk) : St.put ⟨ts, l, l0 :: l1 :: e⟩ 2 s b = ⟨ts, l, l0 :: l1.set s b :: e⟩ := rfl
attribute [simp] outR List.eraseDups List.eraseDupsBy List.eraseDupsBy.loop List.idxOf List.findIdx List.findIdx.go
theorem set_set_same (s : Nat) (a b : Option Blk) : ∀ h : Heap, (h.set s a).set s b = h.set s b
  | [] => by simp [Heap.set]
  | (t, c) :: r => by
    simp only [Heap.set]
    by_cases h1 : s = t
    · rw [if_pos h1, if_pos h1]; simp [Heap.set]
    · rw [if_neg h1, if_neg h1]
      by_cases h2 : s < t
      · rw [if_pos h2, if_pos h2]; simp [Heap.set]
      · rw [if_neg h2, if_neg h2]; simp only [Heap.set]; rw [if_neg h1, if_neg h2, set_set_same]
/-- The first i told anew. -/
def mix {α : Type} (f : Nat → α) (ws : List α) (i : Nat) : List α := (List.range i).map f ++ ws.drop i
theorem mix_len {α : Type} {f : Nat → α} {ws : List α} {i : Nat} (h : i ≤ ws.length) : (mix f ws i).length = ws.length := by simp [mix]; omega
theorem mix_at {α : Type} {f : Nat → α} {ws : List α} {i : Nat} (h : i < ws.length) (h' : i < (mix f ws i).length) : (mix f ws i)[i] = ws[i] := by simp [mix]
theorem mix_set {α : Type} {f : Nat → α} {ws : List α} {i : Nat} (h : i < ws.length) : (mix f ws i).set i (f i) = mix f ws (i + 1) := by
  have hm : ((List.range i).map f).length = i := by simp
  unfold mix
  rw [List.set_append_right i _ (by omega), hm, Nat.sub_self, List.drop_eq_getElem_cons h, List.set_cons_zero]
  simp [List.range_succ]
theorem mix_zero {α : Type} (f : Nat → α) (ws : List α) : mix f ws 0 = ws := by simp [mix]
theorem mix_all {α : Type} (f : Nat → α) (ws : List α) : mix f ws ws.length = (List.range ws.length).map f := by simp [mix]
/-- The heap when the block has been told anew i times. -/
def hp (l : Heap) (S : Nat) (b : Nat → Blk) (i : Nat) : Heap := if i = 0 then l else l.set S (some (b i))
theorem hp_get {l : Heap} {S : Nat} {b : Nat → Blk} (h : l.get S = some (some (b 0))) (i : Nat) : (hp l S b i).get S = some (some (b i)) := by
  unfold hp
  split
  · rename_i h0; subst h0; exact h
  · rw [get_set, if_pos rfl]
theorem hp_set {l : Heap} {S : Nat} {b : Nat → Blk} (i : Nat) : (hp l S b i).set S (some (b (i + 1))) = hp l S b (i + 1) := by
  unfold hp
  split
  · simp
  · rw [set_set_same]; simp
theorem hp_all {l : Heap} {S : Nat} {b : Nat → Blk} {n : Nat} (h : l.set S (some (b 0)) = l) : hp l S b n = l.set S (some (b n)) := by
  unfold hp
  split
  · rename_i h0; subst h0; exact h.symm
  · rfl
def mT (c : Int) (i : Nat) : ByteArray := mtext (c + i)
def mP (c : Int) (i : Nat) : Int × ByteArray := (c + 2 * i, mtext (c + 2 * i + 1))
def bT (c : Int) (ws : List ByteArray) (i : Nat) : Blk := ⟨0, 1, false, true, rowsT (mix (mT c) ws i)⟩
def bP (c : Int) (ws : List (Int × ByteArray)) (i : Nat) : Blk := ⟨0, 2, false, true, rowsP (mix (mP c) ws i)⟩
theorem markTextI (k : Nat) (c : Int) (h : 1 ≤ c ∧ c ≤ 8000000) : call code (k + 1) 57 [.int .i64 c] [] = some ⟨.str (mtext c), [], []⟩ := by
  obtain ⟨n, rfl⟩ : ∃ n : Nat, c = n := ⟨c.toNat, by omega⟩
  exact markText k n (by omega)
theorem markStringS (k : Nat) (l0 l1 : Heap) (S : Nat) (ws : List ByteArray) (c : Int) (hn : ws.length ≤ 1050000) (hc : 1 ≤ c ∧ c ≤ 2900000) (hl : l1.get S = some (some ⟨0, 1, false, true, rowsT ws⟩)) :
    call code (k + 2) 30 [.sl 2 S 0 [] 0 ws.length, .int .i64 c] [l0, l1] = some ⟨.int .i64 (c + ws.length), [], [l0, hp l1 S (bT c ws) ws.length]⟩ := by
  refine call_run rfl fn30 rfl ?_
  simp [F30]
  refine RunC_loop (fun i : Nat => ⟨[.sl 2 S 0 [] 0 ws.length, .int .i64 (c + i), .undef, .undef, .undef, .int .i64 i] ++ List.replicate 14 .undef, [], [l0, hp l1 S (bT c ws) i]⟩)
    (fun i => i ≤ ws.length) (fun i => ws.length - i) 0 (Nat.zero_le _) (by simp; omega) (by simp [hp]) fun i hi _ => ?_
  have hg : (hp l1 S (bT c ws) i).get S = some (some (bT c ws i)) := hp_get (by simpa [bT, mix_zero] using hl) i
  have hml := mix_len (f := mT c) hi
  have hrl := rowsT_len (mix (mT c) ws i)
  rw [hml] at hrl
  by_cases hlt : i < ws.length
  · have hlt' : i < (mix (mT c) ws i).length := by omega
    have hgi : ∀ h, (rowsT (mix (mT c) ws i))[i]'h = [AV.str ((mix (mT c) ws i)[i])] := fun h => rowsT_at hlt' h
    have hs := idx_succ (i := i) hlt (by omega)
    have hs2 : IntKind.wrap .i64 (c + (i : Int) + 1) = c + ((i + 1 : Nat) : Int) := by rw [wrap64 ⟨by omega, by omega⟩]; omega
    have hmt := fun k => markTextI k (c + i) (by omega)
    have hset : (rowsT (mix (mT c) ws i)).set i [.str (mtext (c + (i : Int)))] = rowsT (mix (mT c) ws (i + 1)) := by rw [rowsT_set, ← mix_set hlt]; rfl
    have hhs : (hp l1 S (bT c ws) i).set S (some ⟨0, 1, false, true, rowsT (mix (mT c) ws (i + 1))⟩) = hp l1 S (bT c ws) (i + 1) := hp_set i
    simp only [bT] at hg
    simp [hlt, hg, hrl, hgi, hs, hs2, rcall57, hmt, hset, hhs]
    exact ⟨i + 1, by omega, by omega, by simp, rfl⟩
  · have : i = ws.length := by omega
    subst this
    simp only [bT] at hg
    simp [hg]
end Go.Ae.R3
