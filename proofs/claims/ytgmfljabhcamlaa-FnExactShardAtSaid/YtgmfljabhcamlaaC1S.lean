/- The laws' own functions: sizes, copies, comparisons, marks. Printed by gbox.py. -/
import Derived.Test.YtgmfljabhcamlaaAeList
import Derived.Test.YtgmfljabhcamlaaC1Code
namespace Go.Ae.C1
set_option linter.unusedSimpArgs false
set_option linter.unusedVariables false
set_option maxRecDepth 10000

structure GShard where
  Pos : Int
  Bytes : ByteArray
namespace GShard
def enc (x : GShard) : List AV := [.int .i64 x.Pos, .str x.Bytes]
def zero : GShard := ⟨0, ByteArray.empty⟩
def mkAt (c : Int) (i : Nat) : GShard := ⟨c + 2 * i, mtext (c + 2 * i + 1)⟩
def wt (x : GShard) : Nat := x.Bytes.size
/-- Numbers of 64 bits, texts of a machine's size. -/
def ok (x : GShard) : Prop := (-9223372036854775808 ≤ x.Pos ∧ x.Pos ≤ 9223372036854775807) ∧ x.Bytes.size ≤ 140737488351232
end GShard
theorem fitStringS : ∀ {xs : List (List AV)}, (∀ r ∈ xs, FitsAll [.str] r) → ∃ ws : List ByteArray, xs = rws encT ws ∧ ∀ x ∈ ws, x.size ≤ 140737488351232
  | [], _ => ⟨[], rfl, fun _ h => by cases h⟩
  | r :: xs, h => by
    have h0 := h r List.mem_cons_self
    obtain ⟨_, _, rfl, h1, h0⟩ := h0.cons_inv
    obtain rfl := h0.nil_inv
    obtain ⟨v0, rfl, w0⟩ := h1.str_inv
    obtain ⟨ws, rfl, hw⟩ := fitStringS fun x hx => h x (List.mem_cons_of_mem _ hx)
    exact ⟨v0 :: ws, rfl, fun s hs => by rcases List.mem_cons.1 hs with rfl | hs; exact w0; exact hw s hs⟩
theorem fitInt64S : ∀ {xs : List (List AV)}, (∀ r ∈ xs, FitsAll [.int .i64] r) → ∃ ws : List Int, xs = rws encI ws ∧ ∀ x ∈ ws, (-9223372036854775808 ≤ x ∧ x ≤ 9223372036854775807)
  | [], _ => ⟨[], rfl, fun _ h => by cases h⟩
  | r :: xs, h => by
    have h0 := h r List.mem_cons_self
    obtain ⟨_, _, rfl, h1, h0⟩ := h0.cons_inv
    obtain rfl := h0.nil_inv
    obtain ⟨v0, rfl, w0⟩ := h1.i64_inv
    obtain ⟨ws, rfl, hw⟩ := fitInt64S fun x hx => h x (List.mem_cons_of_mem _ hx)
    exact ⟨v0 :: ws, rfl, fun s hs => by rcases List.mem_cons.1 hs with rfl | hs; exact w0; exact hw s hs⟩
theorem fitShardS : ∀ {xs : List (List AV)}, (∀ r ∈ xs, FitsAll [.int .i64, .str] r) → ∃ ws : List GShard, xs = rws GShard.enc ws ∧ ∀ x ∈ ws, x.ok
  | [], _ => ⟨[], rfl, fun _ h => by cases h⟩
  | r :: xs, h => by
    have h0 := h r List.mem_cons_self
    obtain ⟨_, _, rfl, h1, h0⟩ := h0.cons_inv
    obtain ⟨_, _, rfl, h2, h0⟩ := h0.cons_inv
    obtain rfl := h0.nil_inv
    obtain ⟨v0, rfl, w0⟩ := h1.i64_inv
    obtain ⟨v1, rfl, w1⟩ := h2.str_inv
    obtain ⟨ws, rfl, hw⟩ := fitShardS fun x hx => h x (List.mem_cons_of_mem _ hx)
    exact ⟨⟨v0, v1⟩ :: ws, rfl, fun s hs => by rcases List.mem_cons.1 hs with rfl | hs; exact ⟨w0, w1⟩; exact hw s hs⟩
theorem markText (k : Nat) (c : Nat) (h : 1 ≤ c ∧ c ≤ 1000000000) : call code (k + 1) 75 [.int .i64 c] [] = some ⟨.str (mtext c), [], []⟩ := by
  refine call_run rfl fn75 rfl ?_
  have hd : ¬ c = 0 := by omega
  simp [F75, hd]
  refine RunC_loop (fun q : Nat × ByteArray => ⟨[.int .i64 q.1, .undef, .undef, .str q.2] ++ List.replicate 16 .undef, [], []⟩)
    (fun q => q.2.size + q.1 ≤ 1000000000 ∧ mdig q.1 q.2 = mdig c ByteArray.empty) (fun q => q.1) (c, ByteArray.empty) ⟨by simp; omega, rfl⟩ (by simp; omega) (by simp) fun q hq _ => ?_
  obtain ⟨n, t⟩ := q
  obtain ⟨h1, h2⟩ := hq
  simp only at h1 h2
  rw [mdig] at h2
  by_cases h0 : n = 0
  · subst h0
    simp at h2
    subst h2
    have hz : (mdig c ByteArray.empty).size ≤ 1000000000 := by omega
    simp [mtext]
    have : ByteArray.size ⟨#[109]⟩ = 1 := rfl
    omega
  · rw [dif_neg h0] at h2
    have hgt : 0 < n := by omega
    have e1 : (n : Int).tmod 10 = ((n % 10 : Nat) : Int) := rfl
    have e2 : (n : Int).tdiv 10 = ((n / 10 : Nat) : Int) := rfl
    have e3 : IntKind.wrap .i64 (48 + ((n % 10 : Nat) : Int)) = 48 + ((n % 10 : Nat) : Int) := wrap64 ⟨by omega, by omega⟩
    have e4 : IntKind.wrap .u8 (48 + ((n % 10 : Nat) : Int)) = 48 + ((n % 10 : Nat) : Int) := by
      simp only [IntKind.wrap, IntKind.signed, IntKind.bits, IntKind.min, IntKind.max]
      simp
      omega
    have e5 : IntKind.wrap .i64 ((n / 10 : Nat) : Int) = ((n / 10 : Nat) : Int) := wrap64 ⟨by omega, by omega⟩
    have hb : bytesOf [[AV.int .u8 (48 + ((n % 10 : Nat) : Int))]] = some [UInt8.ofNat (48 + n % 10)] := by
      simp only [bytesOf]
      rw [show (48 + ((n % 10 : Nat) : Int)).toNat = 48 + n % 10 by omega]
    have hsz : (dig n).size = 1 := rfl
    have hds : ByteArray.mk #[48 + UInt8.ofNat (n % 10)] = dig n := by unfold dig; rw [UInt8.ofNat_add]; rfl
    generalize hm : n % 10 = m at *
    generalize hq : n / 10 = q at *
    simp [hgt, e1, e2, e3, e4, e5, hb, hds, hsz]
    exact ⟨by omega, q, dig n ++ t, ⟨by rw [ByteArray.size_append, hsz]; omega, h2⟩, by omega, rfl, rfl⟩
theorem markTextI (k : Nat) (c : Int) (h : 1 ≤ c ∧ c ≤ 1000000000) : call code (k + 1) 75 [.int .i64 c] [] = some ⟨.str (mtext c), [], []⟩ := by
  obtain ⟨n, rfl⟩ : ∃ n : Nat, c = n := ⟨c.toNat, by omega⟩
  exact markText k n (by omega)
theorem toCode (k : Nat) (v0 : Int) (v1 : Int)  : call code (k + 1) 16 [.agg [.int .i64 v0, .int .i64 v1]] [] = some ⟨.agg [.int .i64 v0, .int .i64 v1], [], []⟩ := by
  refine call_run rfl fn16 rfl ?_
  simp [F16]
theorem eqStringS (k : Nat) (ws : List ByteArray) (hn : ws.length ≤ 1048576000) : call code (k + 1) 20 [.rd true (rws encT ws), .rd true (rws encT ws)] [] = some ⟨.bool true, [], []⟩ := by
  refine call_run rfl fn20 rfl ?_
  simp [F20]
  refine RunC_loop (fun i : Nat => ⟨tm 26 [(0, .rd true (rws encT ws)), (1, .rd true (rws encT ws)), (5, .int .i64 i)], [], []⟩)
    (fun i => i ≤ ws.length) (fun i => ws.length - i) 0 (Nat.zero_le _) (by simp; omega) (by simp [tm]) fun i hi _ => ?_
  by_cases hlt : i < ws.length
  · have hs := idx_succ' hlt (by omega)
    simp [tm, hlt, hs, encT]
    exact ⟨i + 1, by omega, by omega, by simp⟩
  · have : i = ws.length := by omega
    subst this
    simp [tm]
theorem szStringS (k : Nat) (l : Int) (ws : List ByteArray) (hl : 0 ≤ l ∧ l ≤ 1048576) (hn : ws.length ≤ 140737488351232) (hs : ∀ x ∈ ws, x.size ≤ 140737488351232) : call code (k + 1) 33 [.rd true (rws encT ws), .int .i64 l] [] = some ⟨.int .i64 (szV l (ws.length + wsum ByteArray.size ws)), [], []⟩ := by
  refine call_run rfl fn33 rfl ?_
  have e1 : IntKind.wrap .i64 (l - (ws.length : Int)) = l - ws.length := wrap64 ⟨by omega, by omega⟩
  cases hd : decide (l - (ws.length : Int) < 0)
  · have hd' := of_decide_eq_false hd
    rw [← szV_step (by omega)]
    simp [F33, e1, hd]
    refine RunC_loop (fun q : Nat × Int => ⟨tm 28 [(0, .rd true (rws encT ws)), (1, .int .i64 q.2), (5, .int .i64 q.1)], [], []⟩)
      (fun q => q.1 ≤ ws.length ∧ 0 ≤ q.2 ∧ q.2 ≤ l ∧ szV q.2 (wsum ByteArray.size (ws.drop q.1)) = szV (l - ws.length) (wsum ByteArray.size ws)) (fun q => ws.length - q.1) (0, l - ws.length) ⟨Nat.zero_le _, by simp; omega, by simp; omega, by simp⟩ (by simp; omega) (by simp [tm]) fun q hq _ => ?_
    obtain ⟨i, c⟩ := q
    obtain ⟨h1, h2, h3, h4⟩ := hq
    simp only at h1 h2 h3 h4
    by_cases hlt : i < ws.length
    · have hz := hs ws[i] (List.getElem_mem hlt)
      have hi := idx_succ' hlt (by omega)
      rw [wsum_drop hlt] at h4
      have e2 : IntKind.wrap .i64 (c - (ws[i].size : Int)) = c - ws[i].size := wrap64 ⟨by omega, by omega⟩
      cases hd2 : decide (c - (ws[i].size : Int) < 0)
      · have hd3 := of_decide_eq_false hd2
        rw [← szV_step (by omega)] at h4
        simp [tm, hlt, hi, encT, e2, hd2]
        exact ⟨i + 1, _, ⟨by omega, by omega, by omega, h4⟩, by omega, rfl, by simp⟩
      · have hd3 := of_decide_eq_true hd2
        rw [szV_stop (by omega)] at h4
        simp [tm, hlt, encT, e2, hd2, ← h4]
    · have : i = ws.length := by omega
      subst this
      rw [wsum_all, szV_zero h2] at h4
      simp [tm, h4]
  · rw [szV_stop (by have := of_decide_eq_true hd; omega)]
    simp [F33, e1, hd]
theorem toStringS (k : Nat) (ws : List ByteArray) (hn : ws.length ≤ 1048576) : call code (k + 1) 36 [.rd true (rws encT ws)] [] = some ⟨.sl 0 0 0 [] 0 ws.length, [⟨0, 1, false, true, rws encT ws⟩], []⟩ := by
  refine call_run rfl fn36 rfl ?_
  simp [F36, zeroRow]
  refine ⟨⟨by omega, by omega⟩, ?_⟩
  refine RunC_loop (fun i : Nat => ⟨tm 22 [(0, .rd true (rws encT ws)), (3, .sl 0 66048 0 [] 0 ws.length), (4, .int .i64 i)], [(0, some ⟨0, 1, false, true, []⟩), (66048, some ⟨0, 1, false, true, rws encT (cpy ByteArray.empty ws i)⟩)], []⟩)
    (fun i => i ≤ ws.length) (fun i => ws.length - i) 0 (Nat.zero_le _) (by simp; omega) (by simp [tm, rws_cpy, encT]) fun i hi _ => ?_
  have hcl := cpy_len (z := ByteArray.empty) hi
  by_cases hlt : i < ws.length
  · have hst : (rws encT (cpy ByteArray.empty ws i)).set i (encT ws[i]) = rws encT (cpy ByteArray.empty ws (i + 1)) := by rw [rws_set, cpy_set hlt]
    have hs := idx_succ' hlt (by omega)
    simp only [encT] at hst
    simp [tm, hlt, hcl, hst, hs, encT]
    exact ⟨i + 1, by omega, by omega, by simp, rfl⟩
  · have : i = ws.length := by omega
    subst this
    simp [tm, cpy_all]
theorem szInt64S (k : Nat) (l : Int) (ws : List Int) (hl : 0 ≤ l ∧ l ≤ 1048576) (hn : ws.length ≤ 140737488351232) : call code (k + 1) 87 [.rd true (rws encI ws), .int .i64 l] [] = some ⟨.int .i64 (szV l ws.length), [], []⟩ := by
  refine call_run rfl fn87 rfl ?_
  have e1 : IntKind.wrap .i64 (l - (ws.length : Int)) = l - ws.length := wrap64 ⟨by omega, by omega⟩
  cases hd : decide (l - (ws.length : Int) < 0)
  · rw [szV_le (by have := of_decide_eq_false hd; omega)]
    simp [F87, e1, hd]
  · rw [szV_gt (by have := of_decide_eq_true hd; omega)]
    simp [F87, e1, hd]
theorem toInt64S (k : Nat) (ws : List Int) (hn : ws.length ≤ 1048576) : call code (k + 1) 90 [.rd true (rws encI ws)] [] = some ⟨.sl 0 0 0 [] 0 ws.length, [⟨0, 1, false, true, rws encI ws⟩], []⟩ := by
  refine call_run rfl fn90 rfl ?_
  simp [F90, zeroRow]
  refine ⟨⟨by omega, by omega⟩, ?_⟩
  refine RunC_loop (fun i : Nat => ⟨tm 22 [(0, .rd true (rws encI ws)), (3, .sl 0 66048 0 [] 0 ws.length), (4, .int .i64 i)], [(0, some ⟨0, 1, false, true, []⟩), (66048, some ⟨0, 1, false, true, rws encI (cpy (0 : Int) ws i)⟩)], []⟩)
    (fun i => i ≤ ws.length) (fun i => ws.length - i) 0 (Nat.zero_le _) (by simp; omega) (by simp [tm, rws_cpy, encI]) fun i hi _ => ?_
  have hcl := cpy_len (z := (0 : Int)) hi
  by_cases hlt : i < ws.length
  · have hst : (rws encI (cpy (0 : Int) ws i)).set i (encI ws[i]) = rws encI (cpy (0 : Int) ws (i + 1)) := by rw [rws_set, cpy_set hlt]
    have hs := idx_succ' hlt (by omega)
    simp only [encI] at hst
    simp [tm, hlt, hcl, hst, hs, encI]
    exact ⟨i + 1, by omega, by omega, by simp, rfl⟩
  · have : i = ws.length := by omega
    subst this
    simp [tm, cpy_all]
theorem eqInt64S (k : Nat) (ws : List Int) (hn : ws.length ≤ 1048576000) : call code (k + 1) 94 [.rd true (rws encI ws), .rd true (rws encI ws)] [] = some ⟨.bool true, [], []⟩ := by
  refine call_run rfl fn94 rfl ?_
  simp [F94]
  refine RunC_loop (fun i : Nat => ⟨tm 26 [(0, .rd true (rws encI ws)), (1, .rd true (rws encI ws)), (5, .int .i64 i)], [], []⟩)
    (fun i => i ≤ ws.length) (fun i => ws.length - i) 0 (Nat.zero_le _) (by simp; omega) (by simp [tm]) fun i hi _ => ?_
  by_cases hlt : i < ws.length
  · have hs := idx_succ' hlt (by omega)
    simp [tm, hlt, hs, encI]
    exact ⟨i + 1, by omega, by omega, by simp⟩
  · have : i = ws.length := by omega
    subst this
    simp [tm]
set_option maxHeartbeats 4000000 in
theorem markInt64S (k lv : Nat) (E : List Heap) (S : Nat) (ws : List Int) (c : Int) (hn : ws.length ≤ 1100000) (hc : 1 ≤ c ∧ c ≤ 800000000) (hlv : lv < E.length) (hl : (hat E lv).get S = some (some ⟨0, 1, false, true, rws encI ws⟩)) :
    call code (k + 1) 95 [.sl (lv + 1) S 0 [] 0 ws.length, .int .i64 c] E = some ⟨.int .i64 (c + ws.length), [], E.modify lv fun h => hp h S (mblk encI 1 mkI c ws) ws.length⟩ := by
  refine call_run rfl fn95 rfl ?_
  simp [F95]
  refine RunC_loop (fun i : Nat => ⟨tm 19 [(0, .sl (lv + 1) S 0 [] 0 ws.length), (1, .int .i64 (c + i)), (5, .int .i64 i)], [], E.modify lv fun h => hp h S (mblk encI 1 mkI c ws) i⟩)
    (fun i => i ≤ ws.length) (fun i => ws.length - i) 0 (Nat.zero_le _) (by simp; omega) (by simp [tm, hp_zero, modify_id']) fun i hi _ => ?_
  have hg : (hp (hat E lv) S (mblk encI 1 mkI c ws) i).get S = some (some ⟨0, 1, false, true, rws encI (mix (mkI c) ws i)⟩) := hp_get (by rw [mblk_zero]; exact hl) i
  have hml := mix_len (f := mkI c) hi
  by_cases hlt : i < ws.length
  · have hs := idx_succ' hlt (by omega)
    have hset : (rws encI (mix (mkI c) ws i)).set i (encI (mkI c i)) = rws encI (mix (mkI c) ws (i + 1)) := by rw [rws_set, mix_set hlt]
    have hhs : ∀ h : Heap, (hp h S (mblk encI 1 mkI c ws) i).set S (some ⟨0, 1, false, true, rws encI (mix (mkI c) ws (i + 1))⟩) = hp h S (mblk encI 1 mkI c ws) (i + 1) := fun h => hp_set i
    have p0 : IntKind.wrap .i64 (c + (i : Int) + 1) = c + ((i + 1 : Nat) : Int) := by rw [wrap64 ⟨by omega, by omega⟩] <;> omega
    simp only [encI, mkI] at hset
    simp [tm, hlt, hg, blk_succ, heap_succ, put_succ, hat_modify, modify_modify', hlv, hml, hs, get_set, set_set_same, encI, hset, hhs, p0]
    exact ⟨i + 1, by omega, by omega, by simp⟩
  · have : i = ws.length := by omega
    subst this
    simp [tm, hg, blk_succ, hml, hat_modify, hlv]
theorem szShard_ (k : Nat) (l : Int) (v0 : Int) (v1 : ByteArray) (hl : 0 ≤ l ∧ l ≤ 1048576) (b1 : v1.size ≤ 140737488351232) : call code (k + 1) 115 [.agg [.int .i64 v0, .str v1], .int .i64 l] [] = some ⟨.int .i64 (szV l (v1.size)), [], []⟩ := by
  refine call_run rfl fn115 rfl ?_
  have e0 : IntKind.wrap .i64 (l - (v1.size : Int)) = l - v1.size := wrap64 ⟨by omega, by omega⟩
  cases d0 : decide (l - (v1.size : Int) < 0)
  rotate_left
  · have a0 := of_decide_eq_true d0
    have hr : szV l (v1.size) = -1 := szV_gt (by omega)
    rw [hr]; simp [F115, e0, d0]
  have a0 := of_decide_eq_false d0
  have hr : szV l (v1.size) = l - (v1.size : Int) := by rw [szV_le (by omega)] <;> omega
  rw [hr]; simp [F115, e0, d0]
theorem szShard (k : Nat) (l : Int) (x : GShard) (hl : 0 ≤ l ∧ l ≤ 1048576) (h : x.ok) : call code (k + 1) 115 [.agg x.enc, .int .i64 l] [] = some ⟨.int .i64 (szV l x.wt), [], []⟩ := by
  obtain ⟨v0, v1⟩ := x
  simp only [GShard.ok] at h
  exact szShard_ k l v0 v1 hl (by omega)
theorem toShard (k : Nat) (v0 : Int) (v1 : ByteArray)  : call code (k + 1) 118 [.agg [.int .i64 v0, .str v1]] [] = some ⟨.agg [.int .i64 v0, .str v1], [], []⟩ := by
  refine call_run rfl fn118 rfl ?_
  simp [F118]
theorem eqShard (k : Nat) (v0 : Int) (v1 : ByteArray)  : call code (k + 1) 119 [.agg [.int .i64 v0, .str v1], .agg [.int .i64 v0, .str v1]] [] = some ⟨.bool true, [], []⟩ := by
  refine call_run rfl fn119 rfl ?_
  simp [F119]
set_option maxHeartbeats 4000000 in
theorem markStringS (k lv : Nat) (E : List Heap) (S : Nat) (ws : List ByteArray) (c : Int) (hn : ws.length ≤ 1100000) (hc : 1 ≤ c ∧ c ≤ 800000000) (hlv : lv < E.length) (hl : (hat E lv).get S = some (some ⟨0, 1, false, true, rws encT ws⟩)) :
    call code (k + 2) 21 [.sl (lv + 1) S 0 [] 0 ws.length, .int .i64 c] E = some ⟨.int .i64 (c + ws.length), [], E.modify lv fun h => hp h S (mblk encT 1 mkT c ws) ws.length⟩ := by
  refine call_run rfl fn21 rfl ?_
  simp [F21]
  refine RunC_loop (fun i : Nat => ⟨tm 20 [(0, .sl (lv + 1) S 0 [] 0 ws.length), (1, .int .i64 (c + i)), (5, .int .i64 i)], [], E.modify lv fun h => hp h S (mblk encT 1 mkT c ws) i⟩)
    (fun i => i ≤ ws.length) (fun i => ws.length - i) 0 (Nat.zero_le _) (by simp; omega) (by simp [tm, hp_zero, modify_id']) fun i hi _ => ?_
  have hg : (hp (hat E lv) S (mblk encT 1 mkT c ws) i).get S = some (some ⟨0, 1, false, true, rws encT (mix (mkT c) ws i)⟩) := hp_get (by rw [mblk_zero]; exact hl) i
  have hml := mix_len (f := mkT c) hi
  by_cases hlt : i < ws.length
  · have hs := idx_succ' hlt (by omega)
    have hset : (rws encT (mix (mkT c) ws i)).set i (encT (mkT c i)) = rws encT (mix (mkT c) ws (i + 1)) := by rw [rws_set, mix_set hlt]
    have hhs : ∀ h : Heap, (hp h S (mblk encT 1 mkT c ws) i).set S (some ⟨0, 1, false, true, rws encT (mix (mkT c) ws (i + 1))⟩) = hp h S (mblk encT 1 mkT c ws) (i + 1) := fun h => hp_set i
    have p0 : IntKind.wrap .i64 (c + (i : Int) + 1) = c + ((i + 1 : Nat) : Int) := by rw [wrap64 ⟨by omega, by omega⟩] <;> omega
    have m0 := fun k => markTextI k (c + (i : Int)) (by omega)
    simp only [encT, mkT] at hset
    simp [tm, hlt, hg, blk_succ, heap_succ, put_succ, hat_modify, modify_modify', hlv, hml, hs, get_set, set_set_same, encT, hset, hhs, p0, m0, rcall75]
    exact ⟨i + 1, by omega, by omega, by simp⟩
  · have : i = ws.length := by omega
    subst this
    simp [tm, hg, blk_succ, hml, hat_modify, hlv]
set_option maxHeartbeats 4000000 in
theorem heldStringS (k : Nat) (n : Nat) (c : Int) (hn : n ≤ 1100000) (hc : 1 ≤ c ∧ c ≤ 800000000) : call code (k + 2) 22 [.rd true (rws encT (marks mkT c n)), .int .i64 c] [] = some ⟨.int .i64 (c + n), [], []⟩ := by
  refine call_run rfl fn22 rfl ?_
  simp [F22]
  refine RunC_loop (fun i : Nat => ⟨tm 22 [(0, .rd true (rws encT (marks mkT c n))), (1, .int .i64 (c + i)), (5, .int .i64 i)], [], []⟩)
    (fun i => i ≤ n) (fun i => n - i) 0 (Nat.zero_le _) (by simp; omega) (by simp [tm]) fun i hi _ => ?_
  by_cases hlt : i < n
  · have hs := idx_succ' hlt (by omega)
    have p0 : IntKind.wrap .i64 (c + (i : Int) + 1) = c + ((i + 1 : Nat) : Int) := by rw [wrap64 ⟨by omega, by omega⟩] <;> omega
    have m0 := fun k => markTextI k (c + (i : Int)) (by omega)
    simp [tm, hlt, hs, marks_at, encT, mkT, p0, m0, rcall75]
    exact ⟨i + 1, by omega, by omega, by simp⟩
  · have : i = n := by omega
    subst this
    simp [tm]
theorem szMatrix (k : Nat) (l : Int) (v0 : Int) (v1 : Int) (v2 : List Int) (hl : 0 ≤ l ∧ l ≤ 1048576) (b2 : v2.length ≤ 140737488351232) : call code (k + 2) 32 [.agg [.int .i64 v0, .int .i64 v1, .rd true (rws encI v2)], .int .i64 l] [] = some ⟨.int .i64 (szV l (v2.length)), [], []⟩ := by
  refine call_run rfl fn32 rfl ?_
  have e0 := fun k => szInt64S k (l) v2 ⟨by omega, by omega⟩ b2
  cases d0 : decide (szV (l) v2.length < 0)
  rotate_left
  · obtain ⟨a0, z0⟩ := szV_neg d0 (by omega)
    rw [z0] at e0
    have hr : szV l (v2.length) = -1 := szV_gt (by omega)
    rw [hr]; simp [F32, rcall87, e0]
  obtain ⟨a0, z0⟩ := szV_pos d0 (by omega)
  rw [z0] at e0 d0
  try simp only [Int.natCast_add] at e0 d0
  have hr : szV l (v2.length) = l - ((v2.length : Nat) : Int) := by rw [szV_le (by omega)] <;> omega
  rw [hr]; simp [F32, rcall87, e0, d0]
theorem toMatrix (k : Nat) (v0 : Int) (v1 : Int) (v2 : List Int) (hv2 : v2.length ≤ 1048576) : call code (k + 2) 35 [.agg [.int .i64 v0, .int .i64 v1, .rd true (rws encI v2)]] [] = some ⟨.agg [.int .i64 v0, .int .i64 v1, .sl 0 0 0 [] 0 v2.length], [⟨0, 1, false, true, rws encI v2⟩], []⟩ := by
  refine call_run rfl fn35 rfl ?_
  have q0 := fun k => toInt64S k v2 hv2
  simp [F35, rcall90, q0]
theorem eqMatrix (k : Nat) (v0 : Int) (v1 : Int) (v2 : List Int) (hv2 : v2.length ≤ 1048576000) : call code (k + 2) 38 [.agg [.int .i64 v0, .int .i64 v1, .rd true (rws encI v2)], .agg [.int .i64 v0, .int .i64 v1, .rd true (rws encI v2)]] [] = some ⟨.bool true, [], []⟩ := by
  refine call_run rfl fn38 rfl ?_
  have q0 := fun k => eqInt64S k v2 hv2
  simp [F38, rcall94, q0]
set_option maxHeartbeats 4000000 in
theorem markMatrix (k lv : Nat) (E : List Heap) (v0 : Int) (v1 : Int) (v2 : List Int) (S2 : Nat) (c : Int) (hc : 1 ≤ c ∧ c ≤ 400000000) (hlv : lv < E.length) (nv2 : v2.length ≤ 1100000) (gv2 : (hat E lv).get S2 = some (some ⟨0, 1, false, true, rws encI v2⟩))  :
    call code (k + 2) 39 [.agg [.int .i64 v0, .int .i64 v1, .sl (lv + 1) S2 0 [] 0 v2.length], .int .i64 c] E = some ⟨.int .i64 (c + v2.length), [], E.modify lv fun h => hp (h) S2 (mblk encI 1 mkI (c) v2) v2.length⟩ := by
  refine call_run rfl fn39 rfl ?_
  have q0 := fun k l0 => markInt64S k (lv + 1) (l0 :: E) S2 v2 (c) nv2 (by omega) (by simp; omega) (by simpa using gv2)
  simp [F39, rcall95, q0, modify_modify', hlv]
theorem szShardS (k : Nat) (l : Int) (ws : List GShard) (hl : 0 ≤ l ∧ l ≤ 1048576) (hn : ws.length ≤ 140737488351232) (hs : ∀ x ∈ ws, x.ok) : call code (k + 2) 64 [.rd true (rws GShard.enc ws), .int .i64 l] [] = some ⟨.int .i64 (szV l (ws.length + wsum GShard.wt ws)), [], []⟩ := by
  refine call_run rfl fn64 rfl ?_
  have e1 : IntKind.wrap .i64 (l - (ws.length : Int)) = l - ws.length := wrap64 ⟨by omega, by omega⟩
  cases hd : decide (l - (ws.length : Int) < 0)
  · have hd' := of_decide_eq_false hd
    rw [← szV_step (by omega)]
    simp [F64, e1, hd]
    refine RunC_loop (fun q : Nat × Int => ⟨tm 27 [(0, .rd true (rws GShard.enc ws)), (1, .int .i64 q.2), (5, .int .i64 q.1)], [], []⟩)
      (fun q => q.1 ≤ ws.length ∧ 0 ≤ q.2 ∧ q.2 ≤ l ∧ szV q.2 (wsum GShard.wt (ws.drop q.1)) = szV (l - ws.length) (wsum GShard.wt ws)) (fun q => ws.length - q.1) (0, l - ws.length) ⟨Nat.zero_le _, by simp; omega, by simp; omega, by simp⟩ (by simp; omega) (by simp [tm]) fun q hq _ => ?_
    obtain ⟨i, c⟩ := q
    obtain ⟨h1, h2, h3, h4⟩ := hq
    simp only at h1 h2 h3 h4
    by_cases hlt : i < ws.length
    · have hz := hs ws[i] (List.getElem_mem hlt)
      have hi := idx_succ' hlt (by omega)
      rw [wsum_drop hlt] at h4
      have hp := fun k => szShard k c ws[i] ⟨h2, by omega⟩ hz
      cases hd2 : decide (szV c (GShard.wt ws[i]) < 0)
      · obtain ⟨a1, a2⟩ := szV_pos hd2 h2
        rw [a2] at hp hd2
        rw [← szV_step a1] at h4
        simp only [GShard.enc] at hp
        simp [tm, hlt, hi, GShard.enc, rcall115, hp, hd2]
        exact ⟨i + 1, _, ⟨by omega, by omega, by omega, h4⟩, by omega, rfl, by simp⟩
      · obtain ⟨a1, a2⟩ := szV_neg hd2 h2
        rw [a2] at hp
        rw [szV_stop a1] at h4
        simp only [GShard.enc] at hp
        simp [tm, hlt, GShard.enc, rcall115, hp, ← h4]
    · have : i = ws.length := by omega
      subst this
      rw [wsum_all, szV_zero h2] at h4
      simp [tm, h4]
  · rw [szV_stop (by have := of_decide_eq_true hd; omega)]
    simp [F64, e1, hd]
theorem toShardS (k : Nat) (ws : List GShard) (hn : ws.length ≤ 1048576) : call code (k + 2) 66 [.rd true (rws GShard.enc ws)] [] = some ⟨.sl 0 0 0 [] 0 ws.length, [⟨0, 2, false, true, rws GShard.enc ws⟩], []⟩ := by
  refine call_run rfl fn66 rfl ?_
  simp [F66, zeroRow]
  refine ⟨⟨by omega, by omega⟩, ?_⟩
  refine RunC_loop (fun i : Nat => ⟨tm 23 [(0, .rd true (rws GShard.enc ws)), (3, .sl 0 66048 0 [] 0 ws.length), (4, .int .i64 i)], [(0, some ⟨0, 2, false, true, []⟩), (66048, some ⟨0, 2, false, true, rws GShard.enc (cpy GShard.zero ws i)⟩)], []⟩)
    (fun i => i ≤ ws.length) (fun i => ws.length - i) 0 (Nat.zero_le _) (by simp; omega) (by simp [tm, rws_cpy, GShard.enc, GShard.zero]) fun i hi _ => ?_
  have hcl := cpy_len (z := GShard.zero) hi
  by_cases hlt : i < ws.length
  · have hst : (rws GShard.enc (cpy GShard.zero ws i)).set i (GShard.enc ws[i]) = rws GShard.enc (cpy GShard.zero ws (i + 1)) := by rw [rws_set, cpy_set hlt]
    have hs := idx_succ' hlt (by omega)
    simp only [GShard.enc] at hst
    simp [tm, hlt, hcl, hst, hs, GShard.enc, rcall118, toShard]
    exact ⟨i + 1, by omega, by omega, by simp, rfl⟩
  · have : i = ws.length := by omega
    subst this
    simp [tm, cpy_all]
theorem eqShardS (k : Nat) (ws : List GShard) (hn : ws.length ≤ 1048576000) : call code (k + 2) 67 [.rd true (rws GShard.enc ws), .rd true (rws GShard.enc ws)] [] = some ⟨.bool true, [], []⟩ := by
  refine call_run rfl fn67 rfl ?_
  simp [F67]
  refine RunC_loop (fun i : Nat => ⟨tm 27 [(0, .rd true (rws GShard.enc ws)), (1, .rd true (rws GShard.enc ws)), (5, .int .i64 i)], [], []⟩)
    (fun i => i ≤ ws.length) (fun i => ws.length - i) 0 (Nat.zero_le _) (by simp; omega) (by simp [tm]) fun i hi _ => ?_
  by_cases hlt : i < ws.length
  · have hs := idx_succ' hlt (by omega)
    simp [tm, hlt, hs, GShard.enc, rcall119, eqShard]
    exact ⟨i + 1, by omega, by omega, by simp⟩
  · have : i = ws.length := by omega
    subst this
    simp [tm]
end Go.Ae.C1
