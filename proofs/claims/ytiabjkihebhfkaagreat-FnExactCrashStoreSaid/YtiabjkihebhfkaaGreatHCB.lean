/- The laws' own functions: sizes, copies, comparisons, marks. Printed by gbox.py. -/
import Derived.Test.YtiabjkihebhfkaaGreatAeL6
import Derived.Test.YtiabjkihebhfkaaGreatHCCode
namespace Go.Ae.GA.B
set_option linter.unusedSimpArgs false
set_option linter.unusedVariables false
set_option maxRecDepth 10000

structure GHead where
  Name : ByteArray
  Ver_Epoch : Int
  Ver_Seq : Int
  Size : Int
  Sum : Int
namespace GHead
def enc (x : GHead) : List AV := [.str x.Name, .int .i64 x.Ver_Epoch, .int .i64 x.Ver_Seq, .int .i64 x.Size, .int .i64 x.Sum]
def zero : GHead := ⟨ByteArray.empty, 0, 0, 0, 0⟩
def mkAt (c : Int) (i : Nat) : GHead := ⟨mtext (c + 5 * i), c + 5 * i + 1, c + 5 * i + 2, c + 5 * i + 3, c + 5 * i + 4⟩
def wt (x : GHead) : Nat := x.Name.size
/-- Numbers of 64 bits, texts of a machine's size. -/
def ok (x : GHead) : Prop := x.Name.size ≤ 140737488351232 ∧ (-9223372036854775808 ≤ x.Ver_Epoch ∧ x.Ver_Epoch ≤ 9223372036854775807) ∧ (-9223372036854775808 ≤ x.Ver_Seq ∧ x.Ver_Seq ≤ 9223372036854775807) ∧ (-9223372036854775808 ≤ x.Size ∧ x.Size ≤ 9223372036854775807) ∧ (-9223372036854775808 ≤ x.Sum ∧ x.Sum ≤ 9223372036854775807)
end GHead
structure GLast where
  Client : Int
  No : Int
  Ver_Epoch : Int
  Ver_Seq : Int
namespace GLast
def enc (x : GLast) : List AV := [.int .i64 x.Client, .int .i64 x.No, .int .i64 x.Ver_Epoch, .int .i64 x.Ver_Seq]
def zero : GLast := ⟨0, 0, 0, 0⟩
def mkAt (c : Int) (i : Nat) : GLast := ⟨c + 4 * i, c + 4 * i + 1, c + 4 * i + 2, c + 4 * i + 3⟩
def wt (x : GLast) : Nat := 0
/-- Numbers of 64 bits, texts of a machine's size. -/
def ok (x : GLast) : Prop := (-9223372036854775808 ≤ x.Client ∧ x.Client ≤ 9223372036854775807) ∧ (-9223372036854775808 ≤ x.No ∧ x.No ≤ 9223372036854775807) ∧ (-9223372036854775808 ≤ x.Ver_Epoch ∧ x.Ver_Epoch ≤ 9223372036854775807) ∧ (-9223372036854775808 ≤ x.Ver_Seq ∧ x.Ver_Seq ≤ 9223372036854775807)
end GLast
structure GEntry where
  Ver_Epoch : Int
  Ver_Seq : Int
  Prior_Epoch : Int
  Prior_Seq : Int
  Name : ByteArray
  Gone : Bool
  Size : Int
  Sum : Int
  Req_Client : Int
  Req_No : Int
namespace GEntry
def enc (x : GEntry) : List AV := [.int .i64 x.Ver_Epoch, .int .i64 x.Ver_Seq, .int .i64 x.Prior_Epoch, .int .i64 x.Prior_Seq, .str x.Name, .bool x.Gone, .int .i64 x.Size, .int .i64 x.Sum, .int .i64 x.Req_Client, .int .i64 x.Req_No]
def zero : GEntry := ⟨0, 0, 0, 0, ByteArray.empty, false, 0, 0, 0, 0⟩
def mkAt (c : Int) (i : Nat) : GEntry := ⟨c + 10 * i, c + 10 * i + 1, c + 10 * i + 2, c + 10 * i + 3, mtext (c + 10 * i + 4), (c + 10 * i + 5) % 3 == 0, c + 10 * i + 6, c + 10 * i + 7, c + 10 * i + 8, c + 10 * i + 9⟩
def wt (x : GEntry) : Nat := x.Name.size
/-- Numbers of 64 bits, texts of a machine's size. -/
def ok (x : GEntry) : Prop := (-9223372036854775808 ≤ x.Ver_Epoch ∧ x.Ver_Epoch ≤ 9223372036854775807) ∧ (-9223372036854775808 ≤ x.Ver_Seq ∧ x.Ver_Seq ≤ 9223372036854775807) ∧ (-9223372036854775808 ≤ x.Prior_Epoch ∧ x.Prior_Epoch ≤ 9223372036854775807) ∧ (-9223372036854775808 ≤ x.Prior_Seq ∧ x.Prior_Seq ≤ 9223372036854775807) ∧ x.Name.size ≤ 140737488351232 ∧ (-9223372036854775808 ≤ x.Size ∧ x.Size ≤ 9223372036854775807) ∧ (-9223372036854775808 ≤ x.Sum ∧ x.Sum ≤ 9223372036854775807) ∧ (-9223372036854775808 ≤ x.Req_Client ∧ x.Req_Client ≤ 9223372036854775807) ∧ (-9223372036854775808 ≤ x.Req_No ∧ x.Req_No ≤ 9223372036854775807)
end GEntry
structure GChunk where
  Name : ByteArray
  Ver_Epoch : Int
  Ver_Seq : Int
  Pos : Int
  Sum : Int
  Bytes : ByteArray
namespace GChunk
def enc (x : GChunk) : List AV := [.str x.Name, .int .i64 x.Ver_Epoch, .int .i64 x.Ver_Seq, .int .i64 x.Pos, .int .i64 x.Sum, .str x.Bytes]
def zero : GChunk := ⟨ByteArray.empty, 0, 0, 0, 0, ByteArray.empty⟩
def mkAt (c : Int) (i : Nat) : GChunk := ⟨mtext (c + 6 * i), c + 6 * i + 1, c + 6 * i + 2, c + 6 * i + 3, c + 6 * i + 4, mtext (c + 6 * i + 5)⟩
def wt (x : GChunk) : Nat := x.Name.size + x.Bytes.size
/-- Numbers of 64 bits, texts of a machine's size. -/
def ok (x : GChunk) : Prop := x.Name.size ≤ 140737488351232 ∧ (-9223372036854775808 ≤ x.Ver_Epoch ∧ x.Ver_Epoch ≤ 9223372036854775807) ∧ (-9223372036854775808 ≤ x.Ver_Seq ∧ x.Ver_Seq ≤ 9223372036854775807) ∧ (-9223372036854775808 ≤ x.Pos ∧ x.Pos ≤ 9223372036854775807) ∧ (-9223372036854775808 ≤ x.Sum ∧ x.Sum ≤ 9223372036854775807) ∧ x.Bytes.size ≤ 140737488351232
end GChunk
theorem fitHeadS : ∀ {xs : List (List AV)}, (∀ r ∈ xs, FitsAll [.str, .int .i64, .int .i64, .int .i64, .int .i64] r) → ∃ ws : List GHead, xs = rws GHead.enc ws ∧ ∀ x ∈ ws, x.ok
  | [], _ => ⟨[], rfl, fun _ h => by cases h⟩
  | r :: xs, h => by
    have h0 := h r List.mem_cons_self
    obtain ⟨_, _, rfl, h1, h0⟩ := h0.cons_inv
    obtain ⟨_, _, rfl, h2, h0⟩ := h0.cons_inv
    obtain ⟨_, _, rfl, h3, h0⟩ := h0.cons_inv
    obtain ⟨_, _, rfl, h4, h0⟩ := h0.cons_inv
    obtain ⟨_, _, rfl, h5, h0⟩ := h0.cons_inv
    obtain rfl := h0.nil_inv
    obtain ⟨v0, rfl, w0⟩ := h1.str_inv
    obtain ⟨v1, rfl, w1⟩ := h2.i64_inv
    obtain ⟨v2, rfl, w2⟩ := h3.i64_inv
    obtain ⟨v3, rfl, w3⟩ := h4.i64_inv
    obtain ⟨v4, rfl, w4⟩ := h5.i64_inv
    obtain ⟨ws, rfl, hw⟩ := fitHeadS fun x hx => h x (List.mem_cons_of_mem _ hx)
    exact ⟨⟨v0, v1, v2, v3, v4⟩ :: ws, rfl, fun s hs => by rcases List.mem_cons.1 hs with rfl | hs; exact ⟨w0, w1, w2, w3, w4⟩; exact hw s hs⟩
theorem fitLastS : ∀ {xs : List (List AV)}, (∀ r ∈ xs, FitsAll [.int .i64, .int .i64, .int .i64, .int .i64] r) → ∃ ws : List GLast, xs = rws GLast.enc ws ∧ ∀ x ∈ ws, x.ok
  | [], _ => ⟨[], rfl, fun _ h => by cases h⟩
  | r :: xs, h => by
    have h0 := h r List.mem_cons_self
    obtain ⟨_, _, rfl, h1, h0⟩ := h0.cons_inv
    obtain ⟨_, _, rfl, h2, h0⟩ := h0.cons_inv
    obtain ⟨_, _, rfl, h3, h0⟩ := h0.cons_inv
    obtain ⟨_, _, rfl, h4, h0⟩ := h0.cons_inv
    obtain rfl := h0.nil_inv
    obtain ⟨v0, rfl, w0⟩ := h1.i64_inv
    obtain ⟨v1, rfl, w1⟩ := h2.i64_inv
    obtain ⟨v2, rfl, w2⟩ := h3.i64_inv
    obtain ⟨v3, rfl, w3⟩ := h4.i64_inv
    obtain ⟨ws, rfl, hw⟩ := fitLastS fun x hx => h x (List.mem_cons_of_mem _ hx)
    exact ⟨⟨v0, v1, v2, v3⟩ :: ws, rfl, fun s hs => by rcases List.mem_cons.1 hs with rfl | hs; exact ⟨w0, w1, w2, w3⟩; exact hw s hs⟩
theorem fitEntryS : ∀ {xs : List (List AV)}, (∀ r ∈ xs, FitsAll [.int .i64, .int .i64, .int .i64, .int .i64, .str, .bool, .int .i64, .int .i64, .int .i64, .int .i64] r) → ∃ ws : List GEntry, xs = rws GEntry.enc ws ∧ ∀ x ∈ ws, x.ok
  | [], _ => ⟨[], rfl, fun _ h => by cases h⟩
  | r :: xs, h => by
    have h0 := h r List.mem_cons_self
    obtain ⟨_, _, rfl, h1, h0⟩ := h0.cons_inv
    obtain ⟨_, _, rfl, h2, h0⟩ := h0.cons_inv
    obtain ⟨_, _, rfl, h3, h0⟩ := h0.cons_inv
    obtain ⟨_, _, rfl, h4, h0⟩ := h0.cons_inv
    obtain ⟨_, _, rfl, h5, h0⟩ := h0.cons_inv
    obtain ⟨_, _, rfl, h6, h0⟩ := h0.cons_inv
    obtain ⟨_, _, rfl, h7, h0⟩ := h0.cons_inv
    obtain ⟨_, _, rfl, h8, h0⟩ := h0.cons_inv
    obtain ⟨_, _, rfl, h9, h0⟩ := h0.cons_inv
    obtain ⟨_, _, rfl, h10, h0⟩ := h0.cons_inv
    obtain rfl := h0.nil_inv
    obtain ⟨v0, rfl, w0⟩ := h1.i64_inv
    obtain ⟨v1, rfl, w1⟩ := h2.i64_inv
    obtain ⟨v2, rfl, w2⟩ := h3.i64_inv
    obtain ⟨v3, rfl, w3⟩ := h4.i64_inv
    obtain ⟨v4, rfl, w4⟩ := h5.str_inv
    obtain ⟨v5, rfl⟩ := h6.bool_inv
    obtain ⟨v6, rfl, w6⟩ := h7.i64_inv
    obtain ⟨v7, rfl, w7⟩ := h8.i64_inv
    obtain ⟨v8, rfl, w8⟩ := h9.i64_inv
    obtain ⟨v9, rfl, w9⟩ := h10.i64_inv
    obtain ⟨ws, rfl, hw⟩ := fitEntryS fun x hx => h x (List.mem_cons_of_mem _ hx)
    exact ⟨⟨v0, v1, v2, v3, v4, v5, v6, v7, v8, v9⟩ :: ws, rfl, fun s hs => by rcases List.mem_cons.1 hs with rfl | hs; exact ⟨w0, w1, w2, w3, w4, w6, w7, w8, w9⟩; exact hw s hs⟩
theorem fitChunkS : ∀ {xs : List (List AV)}, (∀ r ∈ xs, FitsAll [.str, .int .i64, .int .i64, .int .i64, .int .i64, .str] r) → ∃ ws : List GChunk, xs = rws GChunk.enc ws ∧ ∀ x ∈ ws, x.ok
  | [], _ => ⟨[], rfl, fun _ h => by cases h⟩
  | r :: xs, h => by
    have h0 := h r List.mem_cons_self
    obtain ⟨_, _, rfl, h1, h0⟩ := h0.cons_inv
    obtain ⟨_, _, rfl, h2, h0⟩ := h0.cons_inv
    obtain ⟨_, _, rfl, h3, h0⟩ := h0.cons_inv
    obtain ⟨_, _, rfl, h4, h0⟩ := h0.cons_inv
    obtain ⟨_, _, rfl, h5, h0⟩ := h0.cons_inv
    obtain ⟨_, _, rfl, h6, h0⟩ := h0.cons_inv
    obtain rfl := h0.nil_inv
    obtain ⟨v0, rfl, w0⟩ := h1.str_inv
    obtain ⟨v1, rfl, w1⟩ := h2.i64_inv
    obtain ⟨v2, rfl, w2⟩ := h3.i64_inv
    obtain ⟨v3, rfl, w3⟩ := h4.i64_inv
    obtain ⟨v4, rfl, w4⟩ := h5.i64_inv
    obtain ⟨v5, rfl, w5⟩ := h6.str_inv
    obtain ⟨ws, rfl, hw⟩ := fitChunkS fun x hx => h x (List.mem_cons_of_mem _ hx)
    exact ⟨⟨v0, v1, v2, v3, v4, v5⟩ :: ws, rfl, fun s hs => by rcases List.mem_cons.1 hs with rfl | hs; exact ⟨w0, w1, w2, w3, w4, w5⟩; exact hw s hs⟩
theorem markText (k : Nat) (c : Nat) (h : 1 ≤ c ∧ c ≤ 1000000000) : call code (k + 1) 155 [.int .i64 c] [] = some ⟨.str (mtext c), [], []⟩ := by
  refine call_run rfl fn155 rfl ?_
  have hd : ¬ c = 0 := by omega
  simp [F155, hd]
  refine RunC_loop (fun q : Nat × ByteArray => ⟨[.int .i64 q.1, .undef, .undef, .str q.2] ++ List.replicate 16 .undef, [], []⟩)
    (fun q => q.2.size + q.1 ≤ 1000000000 ∧ mdig q.1 q.2 = mdig c ByteArray.empty) (fun q => q.1) (c, ByteArray.empty) ⟨by simp; omega, rfl⟩ (by simp; omega) (by simp) fun q hq _ => ?_
  obtain ⟨n, t⟩ := q
  obtain ⟨h1, h2⟩ := hq
  simp only at h1 h2
  rw [mdig] at h2
  by_cases h0 : n = 0
  · subst h0
    simp at h2
    subst h2
    have hz : (mdig c ByteArray.empty).size ≤ 1000000000 := by omega
    simp [mtext]
    have : ByteArray.size ⟨#[109]⟩ = 1 := rfl
    omega
  · rw [dif_neg h0] at h2
    have hgt : 0 < n := by omega
    have e1 : (n : Int).tmod 10 = ((n % 10 : Nat) : Int) := rfl
    have e2 : (n : Int).tdiv 10 = ((n / 10 : Nat) : Int) := rfl
    have e3 : IntKind.wrap .i64 (48 + ((n % 10 : Nat) : Int)) = 48 + ((n % 10 : Nat) : Int) := wrap64 ⟨by omega, by omega⟩
    have e4 : IntKind.wrap .u8 (48 + ((n % 10 : Nat) : Int)) = 48 + ((n % 10 : Nat) : Int) := by
      simp only [IntKind.wrap, IntKind.signed, IntKind.bits, IntKind.min, IntKind.max]
      simp
      omega
    have e5 : IntKind.wrap .i64 ((n / 10 : Nat) : Int) = ((n / 10 : Nat) : Int) := wrap64 ⟨by omega, by omega⟩
    have hb : bytesOf [[AV.int .u8 (48 + ((n % 10 : Nat) : Int))]] = some [UInt8.ofNat (48 + n % 10)] := by
      simp only [bytesOf]
      rw [show (48 + ((n % 10 : Nat) : Int)).toNat = 48 + n % 10 by omega]
    have hsz : (dig n).size = 1 := rfl
    have hds : ByteArray.mk #[48 + UInt8.ofNat (n % 10)] = dig n := by unfold dig; rw [UInt8.ofNat_add]; rfl
    generalize hm : n % 10 = m at *
    generalize hq : n / 10 = q at *
    simp [hgt, e1, e2, e3, e4, e5, hb, hds, hsz]
    exact ⟨by omega, q, dig n ++ t, ⟨by rw [ByteArray.size_append, hsz]; omega, h2⟩, by omega, rfl, rfl⟩
theorem markTextI (k : Nat) (c : Int) (h : 1 ≤ c ∧ c ≤ 1000000000) : call code (k + 1) 155 [.int .i64 c] [] = some ⟨.str (mtext c), [], []⟩ := by
  obtain ⟨n, rfl⟩ : ∃ n : Nat, c = n := ⟨c.toNat, by omega⟩
  exact markText k n (by omega)
theorem toVer (k : Nat) (v0 : Int) (v1 : Int)  : call code (k + 1) 20 [.agg [.int .i64 v0, .int .i64 v1]] [] = some ⟨.agg [.int .i64 v0, .int .i64 v1], [], []⟩ := by
  refine call_run rfl fn20 rfl ?_
  simp [F20, storeM]
theorem szChunk_ (k : Nat) (l : Int) (v0 : ByteArray) (v1 : Int) (v2 : Int) (v3 : Int) (v4 : Int) (v5 : ByteArray) (hl : 0 ≤ l ∧ l ≤ 1048576) (b0 : v0.size ≤ 140737488351232) (b5 : v5.size ≤ 140737488351232) : call code (k + 1) 22 [.agg [.str v0, .int .i64 v1, .int .i64 v2, .int .i64 v3, .int .i64 v4, .str v5], .int .i64 l] [] = some ⟨.int .i64 (szV l (v0.size + v5.size)), [], []⟩ := by
  refine call_run rfl fn22 rfl ?_
  have e0 : IntKind.wrap .i64 (l - (v0.size : Int)) = l - v0.size := wrap64 ⟨by omega, by omega⟩
  cases d0 : decide (l - (v0.size : Int) < 0)
  rotate_left
  · have a0 := of_decide_eq_true d0
    have hr : szV l (v0.size + v5.size) = -1 := szV_gt (by omega)
    rw [hr]; simp [F22, e0, d0]
  have a0 := of_decide_eq_false d0
  have e1 : IntKind.wrap .i64 (l - (v0.size : Int) - (v5.size : Int)) = l - (v0.size : Int) - v5.size := wrap64 ⟨by omega, by omega⟩
  cases d1 : decide (l - (v0.size : Int) - (v5.size : Int) < 0)
  rotate_left
  · have a1 := of_decide_eq_true d1
    have hr : szV l (v0.size + v5.size) = -1 := szV_gt (by omega)
    rw [hr]; simp [F22, e0, d0, e1, d1]
  have a1 := of_decide_eq_false d1
  have hr : szV l (v0.size + v5.size) = l - (v0.size : Int) - (v5.size : Int) := by rw [szV_le (by omega)] <;> omega
  rw [hr]; simp [F22, e0, d0, e1, d1]
theorem szChunk (k : Nat) (l : Int) (x : GChunk) (hl : 0 ≤ l ∧ l ≤ 1048576) (h : x.ok) : call code (k + 1) 22 [.agg x.enc, .int .i64 l] [] = some ⟨.int .i64 (szV l x.wt), [], []⟩ := by
  obtain ⟨v0, v1, v2, v3, v4, v5⟩ := x
  simp only [GChunk.ok] at h
  exact szChunk_ k l v0 v1 v2 v3 v4 v5 hl (by omega) (by omega)
theorem szLastS (k : Nat) (l : Int) (ws : List GLast) (hl : 0 ≤ l ∧ l ≤ 1048576) (hn : ws.length ≤ 140737488351232) : call code (k + 1) 56 [.rd true (rws GLast.enc ws), .int .i64 l] [] = some ⟨.int .i64 (szV l ws.length), [], []⟩ := by
  refine call_run rfl fn56 rfl ?_
  have e1 : IntKind.wrap .i64 (l - (ws.length : Int)) = l - ws.length := wrap64 ⟨by omega, by omega⟩
  cases hd : decide (l - (ws.length : Int) < 0)
  · rw [szV_le (by have := of_decide_eq_false hd; omega)]
    simp [F56, e1, hd]
  · rw [szV_gt (by have := of_decide_eq_true hd; omega)]
    simp [F56, e1, hd]
theorem toPg (k : Nat) (v0 : Int) (v1 : Int)  : call code (k + 1) 61 [.agg [.int .i64 v0, .int .i64 v1]] [] = some ⟨.agg [.int .i64 v0, .int .i64 v1], [], []⟩ := by
  refine call_run rfl fn61 rfl ?_
  simp [F61, storeM]
theorem eqPg (k : Nat) (v0 : Int) (v1 : Int)  : call code (k + 1) 68 [.agg [.int .i64 v0, .int .i64 v1], .agg [.int .i64 v0, .int .i64 v1]] [] = some ⟨.bool true, [], []⟩ := by
  refine call_run rfl fn68 rfl ?_
  simp [F68, storeM]
theorem eqVer (k : Nat) (v0 : Int) (v1 : Int)  : call code (k + 1) 69 [.agg [.int .i64 v0, .int .i64 v1], .agg [.int .i64 v0, .int .i64 v1]] [] = some ⟨.bool true, [], []⟩ := by
  refine call_run rfl fn69 rfl ?_
  simp [F69, storeM]
set_option maxHeartbeats 4000000 in
theorem markLastS (k lv : Nat) (E : List Heap) (S : Nat) (ws : List GLast) (c : Int) (hn : ws.length ≤ 1100000) (hc : 1 ≤ c ∧ c ≤ 800000000) (hlv : lv < E.length) (hl : (hat E lv).get S = some (some ⟨0, 4, false, true, rws GLast.enc ws⟩)) :
    call code (k + 1) 75 [.sl (lv + 1) S 0 [] 0 ws.length, .int .i64 c] E = some ⟨.int .i64 (c + 4 * ws.length), [], E.modify lv fun h => hp h S (mblk GLast.enc 4 GLast.mkAt c ws) ws.length⟩ := by
  refine call_run rfl fn75 rfl ?_
  simp [F75]
  refine RunC_loop (fun i : Nat => ⟨tm 43 [(0, .sl (lv + 1) S 0 [] 0 ws.length), (1, .int .i64 (c + 4 * i)), (5, .int .i64 i)], [], E.modify lv fun h => hp h S (mblk GLast.enc 4 GLast.mkAt c ws) i⟩)
    (fun i => i ≤ ws.length) (fun i => ws.length - i) 0 (Nat.zero_le _) (by simp; omega) (by simp [tm, hp_zero, modify_id']) fun i hi _ => ?_
  have hg : (hp (hat E lv) S (mblk GLast.enc 4 GLast.mkAt c ws) i).get S = some (some ⟨0, 4, false, true, rws GLast.enc (mix (GLast.mkAt c) ws i)⟩) := hp_get (by rw [mblk_zero]; exact hl) i
  have hml := mix_len (f := GLast.mkAt c) hi
  by_cases hlt : i < ws.length
  · have hs := idx_succ' hlt (by omega)
    have hset : (rws GLast.enc (mix (GLast.mkAt c) ws i)).set i (GLast.enc (GLast.mkAt c i)) = rws GLast.enc (mix (GLast.mkAt c) ws (i + 1)) := by rw [rws_set, mix_set hlt]
    have hhs : ∀ h : Heap, (hp h S (mblk GLast.enc 4 GLast.mkAt c ws) i).set S (some ⟨0, 4, false, true, rws GLast.enc (mix (GLast.mkAt c) ws (i + 1))⟩) = hp h S (mblk GLast.enc 4 GLast.mkAt c ws) (i + 1) := fun h => hp_set i
    have p0 : IntKind.wrap .i64 (c + 4 * (i : Int) + 1) = c + 4 * (i : Int) + 1 := by rw [wrap64 ⟨by omega, by omega⟩] <;> omega
    have p1 : IntKind.wrap .i64 (c + 4 * (i : Int) + 1 + 1) = c + 4 * (i : Int) + 2 := by rw [wrap64 ⟨by omega, by omega⟩] <;> omega
    have p2 : IntKind.wrap .i64 (c + 4 * (i : Int) + 2 + 1) = c + 4 * (i : Int) + 3 := by rw [wrap64 ⟨by omega, by omega⟩] <;> omega
    have p3 : IntKind.wrap .i64 (c + 4 * (i : Int) + 3 + 1) = c + 4 * ((i + 1 : Nat) : Int) := by rw [wrap64 ⟨by omega, by omega⟩] <;> omega
    simp only [GLast.enc, GLast.mkAt] at hset
    simp [tm, hlt, hg, blk_succ, heap_succ, put_succ, storeM, hat_modify, modify_modify', hlv, hml, hs, get_set, set_set_same, GLast.enc, hset, hhs, p0, p1, p2, p3]
    exact ⟨i + 1, by omega, by omega, by simp⟩
  · have : i = ws.length := by omega
    subst this
    simp [tm, hg, blk_succ, hml, hat_modify, hlv]
set_option maxHeartbeats 4000000 in
theorem heldLastS (k : Nat) (n : Nat) (c : Int) (hn : n ≤ 1100000) (hc : 1 ≤ c ∧ c ≤ 800000000) : call code (k + 1) 79 [.rd true (rws GLast.enc (marks GLast.mkAt c n)), .int .i64 c] [] = some ⟨.int .i64 (c + 4 * n), [], []⟩ := by
  refine call_run rfl fn79 rfl ?_
  simp [F79]
  refine RunC_loop (fun i : Nat => ⟨tm 51 [(0, .rd true (rws GLast.enc (marks GLast.mkAt c n))), (1, .int .i64 (c + 4 * i)), (5, .int .i64 i)], [], []⟩)
    (fun i => i ≤ n) (fun i => n - i) 0 (Nat.zero_le _) (by simp; omega) (by simp [tm]) fun i hi _ => ?_
  by_cases hlt : i < n
  · have hs := idx_succ' hlt (by omega)
    have p0 : IntKind.wrap .i64 (c + 4 * (i : Int) + 1) = c + 4 * (i : Int) + 1 := by rw [wrap64 ⟨by omega, by omega⟩] <;> omega
    have p1 : IntKind.wrap .i64 (c + 4 * (i : Int) + 1 + 1) = c + 4 * (i : Int) + 2 := by rw [wrap64 ⟨by omega, by omega⟩] <;> omega
    have p2 : IntKind.wrap .i64 (c + 4 * (i : Int) + 2 + 1) = c + 4 * (i : Int) + 3 := by rw [wrap64 ⟨by omega, by omega⟩] <;> omega
    have p3 : IntKind.wrap .i64 (c + 4 * (i : Int) + 3 + 1) = c + 4 * ((i + 1 : Nat) : Int) := by rw [wrap64 ⟨by omega, by omega⟩] <;> omega
    simp [tm, hlt, hs, marks_at, GLast.enc, GLast.mkAt, p0, p1, p2, p3]
    exact ⟨i + 1, by omega, by omega, by simp⟩
  · have : i = n := by omega
    subst this
    simp [tm]
theorem szHead_ (k : Nat) (l : Int) (v0 : ByteArray) (v1 : Int) (v2 : Int) (v3 : Int) (v4 : Int) (hl : 0 ≤ l ∧ l ≤ 1048576) (b0 : v0.size ≤ 140737488351232) : call code (k + 1) 136 [.agg [.str v0, .int .i64 v1, .int .i64 v2, .int .i64 v3, .int .i64 v4], .int .i64 l] [] = some ⟨.int .i64 (szV l (v0.size)), [], []⟩ := by
  refine call_run rfl fn136 rfl ?_
  have e0 : IntKind.wrap .i64 (l - (v0.size : Int)) = l - v0.size := wrap64 ⟨by omega, by omega⟩
  cases d0 : decide (l - (v0.size : Int) < 0)
  rotate_left
  · have a0 := of_decide_eq_true d0
    have hr : szV l (v0.size) = -1 := szV_gt (by omega)
    rw [hr]; simp [F136, e0, d0]
  have a0 := of_decide_eq_false d0
  have hr : szV l (v0.size) = l - (v0.size : Int) := by rw [szV_le (by omega)] <;> omega
  rw [hr]; simp [F136, e0, d0]
theorem szHead (k : Nat) (l : Int) (x : GHead) (hl : 0 ≤ l ∧ l ≤ 1048576) (h : x.ok) : call code (k + 1) 136 [.agg x.enc, .int .i64 l] [] = some ⟨.int .i64 (szV l x.wt), [], []⟩ := by
  obtain ⟨v0, v1, v2, v3, v4⟩ := x
  simp only [GHead.ok] at h
  exact szHead_ k l v0 v1 v2 v3 v4 hl (by omega)
theorem szEntry_ (k : Nat) (l : Int) (v0 : Int) (v1 : Int) (v2 : Int) (v3 : Int) (v4 : ByteArray) (v5 : Bool) (v6 : Int) (v7 : Int) (v8 : Int) (v9 : Int) (hl : 0 ≤ l ∧ l ≤ 1048576) (b4 : v4.size ≤ 140737488351232) : call code (k + 1) 137 [.agg [.int .i64 v0, .int .i64 v1, .int .i64 v2, .int .i64 v3, .str v4, .bool v5, .int .i64 v6, .int .i64 v7, .int .i64 v8, .int .i64 v9], .int .i64 l] [] = some ⟨.int .i64 (szV l (v4.size)), [], []⟩ := by
  refine call_run rfl fn137 rfl ?_
  have e0 : IntKind.wrap .i64 (l - (v4.size : Int)) = l - v4.size := wrap64 ⟨by omega, by omega⟩
  cases d0 : decide (l - (v4.size : Int) < 0)
  rotate_left
  · have a0 := of_decide_eq_true d0
    have hr : szV l (v4.size) = -1 := szV_gt (by omega)
    rw [hr]; simp [F137, e0, d0]
  have a0 := of_decide_eq_false d0
  have hr : szV l (v4.size) = l - (v4.size : Int) := by rw [szV_le (by omega)] <;> omega
  rw [hr]; simp [F137, e0, d0]
theorem szEntry (k : Nat) (l : Int) (x : GEntry) (hl : 0 ≤ l ∧ l ≤ 1048576) (h : x.ok) : call code (k + 1) 137 [.agg x.enc, .int .i64 l] [] = some ⟨.int .i64 (szV l x.wt), [], []⟩ := by
  obtain ⟨v0, v1, v2, v3, v4, v5, v6, v7, v8, v9⟩ := x
  simp only [GEntry.ok] at h
  exact szEntry_ k l v0 v1 v2 v3 v4 v5 v6 v7 v8 v9 hl (by omega)
theorem toReq (k : Nat) (v0 : Int) (v1 : Int)  : call code (k + 1) 206 [.agg [.int .i64 v0, .int .i64 v1]] [] = some ⟨.agg [.int .i64 v0, .int .i64 v1], [], []⟩ := by
  refine call_run rfl fn206 rfl ?_
  simp [F206, storeM]
theorem eqReq (k : Nat) (v0 : Int) (v1 : Int)  : call code (k + 1) 214 [.agg [.int .i64 v0, .int .i64 v1], .agg [.int .i64 v0, .int .i64 v1]] [] = some ⟨.bool true, [], []⟩ := by
  refine call_run rfl fn214 rfl ?_
  simp [F214, storeM]
theorem toChunk (k : Nat) (v0 : ByteArray) (v1 : Int) (v2 : Int) (v3 : Int) (v4 : Int) (v5 : ByteArray)  : call code (k + 2) 24 [.agg [.str v0, .int .i64 v1, .int .i64 v2, .int .i64 v3, .int .i64 v4, .str v5]] [] = some ⟨.agg [.str v0, .int .i64 v1, .int .i64 v2, .int .i64 v3, .int .i64 v4, .str v5], [], []⟩ := by
  refine call_run rfl fn24 rfl ?_
  have q0 := toVer
  simp [F24, rcall20, q0, storeM]
theorem szHeadS (k : Nat) (l : Int) (ws : List GHead) (hl : 0 ≤ l ∧ l ≤ 1048576) (hn : ws.length ≤ 140737488351232) (hs : ∀ x ∈ ws, x.ok) : call code (k + 2) 55 [.rd true (rws GHead.enc ws), .int .i64 l] [] = some ⟨.int .i64 (szV l (ws.length + wsum GHead.wt ws)), [], []⟩ := by
  refine call_run rfl fn55 rfl ?_
  have e1 : IntKind.wrap .i64 (l - (ws.length : Int)) = l - ws.length := wrap64 ⟨by omega, by omega⟩
  cases hd : decide (l - (ws.length : Int) < 0)
  · have hd' := of_decide_eq_false hd
    rw [← szV_step (by omega)]
    simp [F55, e1, hd]
    refine RunC_loop (fun q : Nat × Int => ⟨tm 27 [(0, .rd true (rws GHead.enc ws)), (1, .int .i64 q.2), (5, .int .i64 q.1)], [], []⟩)
      (fun q => q.1 ≤ ws.length ∧ 0 ≤ q.2 ∧ q.2 ≤ l ∧ szV q.2 (wsum GHead.wt (ws.drop q.1)) = szV (l - ws.length) (wsum GHead.wt ws)) (fun q => ws.length - q.1) (0, l - ws.length) ⟨Nat.zero_le _, by simp; omega, by simp; omega, by simp⟩ (by simp; omega) (by simp [tm]) fun q hq _ => ?_
    obtain ⟨i, c⟩ := q
    obtain ⟨h1, h2, h3, h4⟩ := hq
    simp only at h1 h2 h3 h4
    by_cases hlt : i < ws.length
    · have hz := hs ws[i] (List.getElem_mem hlt)
      have hi := idx_succ' hlt (by omega)
      rw [wsum_drop hlt] at h4
      have hp := fun k => szHead k c ws[i] ⟨h2, by omega⟩ hz
      cases hd2 : decide (szV c (GHead.wt ws[i]) < 0)
      · obtain ⟨a1, a2⟩ := szV_pos hd2 h2
        rw [a2] at hp hd2
        rw [← szV_step a1] at h4
        simp only [GHead.enc] at hp
        simp [tm, hlt, hi, GHead.enc, rcall136, hp, hd2]
        exact ⟨i + 1, _, ⟨by omega, by omega, by omega, h4⟩, by omega, rfl, by simp⟩
      · obtain ⟨a1, a2⟩ := szV_neg hd2 h2
        rw [a2] at hp
        rw [szV_stop a1] at h4
        simp only [GHead.enc] at hp
        simp [tm, hlt, GHead.enc, rcall136, hp, ← h4]
    · have : i = ws.length := by omega
      subst this
      rw [wsum_all, szV_zero h2] at h4
      simp [tm, h4]
  · rw [szV_stop (by have := of_decide_eq_true hd; omega)]
    simp [F55, e1, hd]
theorem szEntryS (k : Nat) (l : Int) (ws : List GEntry) (hl : 0 ≤ l ∧ l ≤ 1048576) (hn : ws.length ≤ 140737488351232) (hs : ∀ x ∈ ws, x.ok) : call code (k + 2) 57 [.rd true (rws GEntry.enc ws), .int .i64 l] [] = some ⟨.int .i64 (szV l (ws.length + wsum GEntry.wt ws)), [], []⟩ := by
  refine call_run rfl fn57 rfl ?_
  have e1 : IntKind.wrap .i64 (l - (ws.length : Int)) = l - ws.length := wrap64 ⟨by omega, by omega⟩
  cases hd : decide (l - (ws.length : Int) < 0)
  · have hd' := of_decide_eq_false hd
    rw [← szV_step (by omega)]
    simp [F57, e1, hd]
    refine RunC_loop (fun q : Nat × Int => ⟨tm 27 [(0, .rd true (rws GEntry.enc ws)), (1, .int .i64 q.2), (5, .int .i64 q.1)], [], []⟩)
      (fun q => q.1 ≤ ws.length ∧ 0 ≤ q.2 ∧ q.2 ≤ l ∧ szV q.2 (wsum GEntry.wt (ws.drop q.1)) = szV (l - ws.length) (wsum GEntry.wt ws)) (fun q => ws.length - q.1) (0, l - ws.length) ⟨Nat.zero_le _, by simp; omega, by simp; omega, by simp⟩ (by simp; omega) (by simp [tm]) fun q hq _ => ?_
    obtain ⟨i, c⟩ := q
    obtain ⟨h1, h2, h3, h4⟩ := hq
    simp only at h1 h2 h3 h4
    by_cases hlt : i < ws.length
    · have hz := hs ws[i] (List.getElem_mem hlt)
      have hi := idx_succ' hlt (by omega)
      rw [wsum_drop hlt] at h4
      have hp := fun k => szEntry k c ws[i] ⟨h2, by omega⟩ hz
      cases hd2 : decide (szV c (GEntry.wt ws[i]) < 0)
      · obtain ⟨a1, a2⟩ := szV_pos hd2 h2
        rw [a2] at hp hd2
        rw [← szV_step a1] at h4
        simp only [GEntry.enc] at hp
        simp [tm, hlt, hi, GEntry.enc, rcall137, hp, hd2]
        exact ⟨i + 1, _, ⟨by omega, by omega, by omega, h4⟩, by omega, rfl, by simp⟩
      · obtain ⟨a1, a2⟩ := szV_neg hd2 h2
        rw [a2] at hp
        rw [szV_stop a1] at h4
        simp only [GEntry.enc] at hp
        simp [tm, hlt, GEntry.enc, rcall137, hp, ← h4]
    · have : i = ws.length := by omega
      subst this
      rw [wsum_all, szV_zero h2] at h4
      simp [tm, h4]
  · rw [szV_stop (by have := of_decide_eq_true hd; omega)]
    simp [F57, e1, hd]
theorem szChunkS (k : Nat) (l : Int) (ws : List GChunk) (hl : 0 ≤ l ∧ l ≤ 1048576) (hn : ws.length ≤ 140737488351232) (hs : ∀ x ∈ ws, x.ok) : call code (k + 2) 58 [.rd true (rws GChunk.enc ws), .int .i64 l] [] = some ⟨.int .i64 (szV l (ws.length + wsum GChunk.wt ws)), [], []⟩ := by
  refine call_run rfl fn58 rfl ?_
  have e1 : IntKind.wrap .i64 (l - (ws.length : Int)) = l - ws.length := wrap64 ⟨by omega, by omega⟩
  cases hd : decide (l - (ws.length : Int) < 0)
  · have hd' := of_decide_eq_false hd
    rw [← szV_step (by omega)]
    simp [F58, e1, hd]
    refine RunC_loop (fun q : Nat × Int => ⟨tm 27 [(0, .rd true (rws GChunk.enc ws)), (1, .int .i64 q.2), (5, .int .i64 q.1)], [], []⟩)
      (fun q => q.1 ≤ ws.length ∧ 0 ≤ q.2 ∧ q.2 ≤ l ∧ szV q.2 (wsum GChunk.wt (ws.drop q.1)) = szV (l - ws.length) (wsum GChunk.wt ws)) (fun q => ws.length - q.1) (0, l - ws.length) ⟨Nat.zero_le _, by simp; omega, by simp; omega, by simp⟩ (by simp; omega) (by simp [tm]) fun q hq _ => ?_
    obtain ⟨i, c⟩ := q
    obtain ⟨h1, h2, h3, h4⟩ := hq
    simp only at h1 h2 h3 h4
    by_cases hlt : i < ws.length
    · have hz := hs ws[i] (List.getElem_mem hlt)
      have hi := idx_succ' hlt (by omega)
      rw [wsum_drop hlt] at h4
      have hp := fun k => szChunk k c ws[i] ⟨h2, by omega⟩ hz
      cases hd2 : decide (szV c (GChunk.wt ws[i]) < 0)
      · obtain ⟨a1, a2⟩ := szV_pos hd2 h2
        rw [a2] at hp hd2
        rw [← szV_step a1] at h4
        simp only [GChunk.enc] at hp
        simp [tm, hlt, hi, GChunk.enc, rcall22, hp, hd2]
        exact ⟨i + 1, _, ⟨by omega, by omega, by omega, h4⟩, by omega, rfl, by simp⟩
      · obtain ⟨a1, a2⟩ := szV_neg hd2 h2
        rw [a2] at hp
        rw [szV_stop a1] at h4
        simp only [GChunk.enc] at hp
        simp [tm, hlt, GChunk.enc, rcall22, hp, ← h4]
    · have : i = ws.length := by omega
      subst this
      rw [wsum_all, szV_zero h2] at h4
      simp [tm, h4]
  · rw [szV_stop (by have := of_decide_eq_true hd; omega)]
    simp [F58, e1, hd]
set_option maxHeartbeats 4000000 in
theorem markHeadS (k lv : Nat) (E : List Heap) (S : Nat) (ws : List GHead) (c : Int) (hn : ws.length ≤ 1100000) (hc : 1 ≤ c ∧ c ≤ 800000000) (hlv : lv < E.length) (hl : (hat E lv).get S = some (some ⟨0, 5, false, true, rws GHead.enc ws⟩)) :
    call code (k + 2) 74 [.sl (lv + 1) S 0 [] 0 ws.length, .int .i64 c] E = some ⟨.int .i64 (c + 5 * ws.length), [], E.modify lv fun h => hp h S (mblk GHead.enc 5 GHead.mkAt c ws) ws.length⟩ := by
  refine call_run rfl fn74 rfl ?_
  simp [F74]
  refine RunC_loop (fun i : Nat => ⟨tm 51 [(0, .sl (lv + 1) S 0 [] 0 ws.length), (1, .int .i64 (c + 5 * i)), (5, .int .i64 i)], [], E.modify lv fun h => hp h S (mblk GHead.enc 5 GHead.mkAt c ws) i⟩)
    (fun i => i ≤ ws.length) (fun i => ws.length - i) 0 (Nat.zero_le _) (by simp; omega) (by simp [tm, hp_zero, modify_id']) fun i hi _ => ?_
  have hg : (hp (hat E lv) S (mblk GHead.enc 5 GHead.mkAt c ws) i).get S = some (some ⟨0, 5, false, true, rws GHead.enc (mix (GHead.mkAt c) ws i)⟩) := hp_get (by rw [mblk_zero]; exact hl) i
  have hml := mix_len (f := GHead.mkAt c) hi
  by_cases hlt : i < ws.length
  · have hs := idx_succ' hlt (by omega)
    have hset : (rws GHead.enc (mix (GHead.mkAt c) ws i)).set i (GHead.enc (GHead.mkAt c i)) = rws GHead.enc (mix (GHead.mkAt c) ws (i + 1)) := by rw [rws_set, mix_set hlt]
    have hhs : ∀ h : Heap, (hp h S (mblk GHead.enc 5 GHead.mkAt c ws) i).set S (some ⟨0, 5, false, true, rws GHead.enc (mix (GHead.mkAt c) ws (i + 1))⟩) = hp h S (mblk GHead.enc 5 GHead.mkAt c ws) (i + 1) := fun h => hp_set i
    have p0 : IntKind.wrap .i64 (c + 5 * (i : Int) + 1) = c + 5 * (i : Int) + 1 := by rw [wrap64 ⟨by omega, by omega⟩] <;> omega
    have p1 : IntKind.wrap .i64 (c + 5 * (i : Int) + 1 + 1) = c + 5 * (i : Int) + 2 := by rw [wrap64 ⟨by omega, by omega⟩] <;> omega
    have p2 : IntKind.wrap .i64 (c + 5 * (i : Int) + 2 + 1) = c + 5 * (i : Int) + 3 := by rw [wrap64 ⟨by omega, by omega⟩] <;> omega
    have p3 : IntKind.wrap .i64 (c + 5 * (i : Int) + 3 + 1) = c + 5 * (i : Int) + 4 := by rw [wrap64 ⟨by omega, by omega⟩] <;> omega
    have p4 : IntKind.wrap .i64 (c + 5 * (i : Int) + 4 + 1) = c + 5 * ((i + 1 : Nat) : Int) := by rw [wrap64 ⟨by omega, by omega⟩] <;> omega
    have m0 := fun k => markTextI k (c + 5 * (i : Int)) (by omega)
    simp only [GHead.enc, GHead.mkAt] at hset
    simp [tm, hlt, hg, blk_succ, heap_succ, put_succ, storeM, hat_modify, modify_modify', hlv, hml, hs, get_set, set_set_same, GHead.enc, hset, hhs, p0, p1, p2, p3, p4, m0, rcall155]
    exact ⟨i + 1, by omega, by omega, by simp⟩
  · have : i = ws.length := by omega
    subst this
    simp [tm, hg, blk_succ, hml, hat_modify, hlv]
set_option maxHeartbeats 4000000 in
theorem markEntryS (k lv : Nat) (E : List Heap) (S : Nat) (ws : List GEntry) (c : Int) (hn : ws.length ≤ 1100000) (hc : 1 ≤ c ∧ c ≤ 800000000) (hlv : lv < E.length) (hl : (hat E lv).get S = some (some ⟨0, 10, false, true, rws GEntry.enc ws⟩)) :
    call code (k + 2) 76 [.sl (lv + 1) S 0 [] 0 ws.length, .int .i64 c] E = some ⟨.int .i64 (c + 10 * ws.length), [], E.modify lv fun h => hp h S (mblk GEntry.enc 10 GEntry.mkAt c ws) ws.length⟩ := by
  refine call_run rfl fn76 rfl ?_
  simp [F76]
  refine RunC_loop (fun i : Nat => ⟨tm 92 [(0, .sl (lv + 1) S 0 [] 0 ws.length), (1, .int .i64 (c + 10 * i)), (5, .int .i64 i)], [], E.modify lv fun h => hp h S (mblk GEntry.enc 10 GEntry.mkAt c ws) i⟩)
    (fun i => i ≤ ws.length) (fun i => ws.length - i) 0 (Nat.zero_le _) (by simp; omega) (by simp [tm, hp_zero, modify_id']) fun i hi _ => ?_
  have hg : (hp (hat E lv) S (mblk GEntry.enc 10 GEntry.mkAt c ws) i).get S = some (some ⟨0, 10, false, true, rws GEntry.enc (mix (GEntry.mkAt c) ws i)⟩) := hp_get (by rw [mblk_zero]; exact hl) i
  have hml := mix_len (f := GEntry.mkAt c) hi
  by_cases hlt : i < ws.length
  · have hs := idx_succ' hlt (by omega)
    have hset : (rws GEntry.enc (mix (GEntry.mkAt c) ws i)).set i (GEntry.enc (GEntry.mkAt c i)) = rws GEntry.enc (mix (GEntry.mkAt c) ws (i + 1)) := by rw [rws_set, mix_set hlt]
    have hhs : ∀ h : Heap, (hp h S (mblk GEntry.enc 10 GEntry.mkAt c ws) i).set S (some ⟨0, 10, false, true, rws GEntry.enc (mix (GEntry.mkAt c) ws (i + 1))⟩) = hp h S (mblk GEntry.enc 10 GEntry.mkAt c ws) (i + 1) := fun h => hp_set i
    have p0 : IntKind.wrap .i64 (c + 10 * (i : Int) + 1) = c + 10 * (i : Int) + 1 := by rw [wrap64 ⟨by omega, by omega⟩] <;> omega
    have p1 : IntKind.wrap .i64 (c + 10 * (i : Int) + 1 + 1) = c + 10 * (i : Int) + 2 := by rw [wrap64 ⟨by omega, by omega⟩] <;> omega
    have p2 : IntKind.wrap .i64 (c + 10 * (i : Int) + 2 + 1) = c + 10 * (i : Int) + 3 := by rw [wrap64 ⟨by omega, by omega⟩] <;> omega
    have p3 : IntKind.wrap .i64 (c + 10 * (i : Int) + 3 + 1) = c + 10 * (i : Int) + 4 := by rw [wrap64 ⟨by omega, by omega⟩] <;> omega
    have p4 : IntKind.wrap .i64 (c + 10 * (i : Int) + 4 + 1) = c + 10 * (i : Int) + 5 := by rw [wrap64 ⟨by omega, by omega⟩] <;> omega
    have p5 : IntKind.wrap .i64 (c + 10 * (i : Int) + 5 + 1) = c + 10 * (i : Int) + 6 := by rw [wrap64 ⟨by omega, by omega⟩] <;> omega
    have p6 : IntKind.wrap .i64 (c + 10 * (i : Int) + 6 + 1) = c + 10 * (i : Int) + 7 := by rw [wrap64 ⟨by omega, by omega⟩] <;> omega
    have p7 : IntKind.wrap .i64 (c + 10 * (i : Int) + 7 + 1) = c + 10 * (i : Int) + 8 := by rw [wrap64 ⟨by omega, by omega⟩] <;> omega
    have p8 : IntKind.wrap .i64 (c + 10 * (i : Int) + 8 + 1) = c + 10 * (i : Int) + 9 := by rw [wrap64 ⟨by omega, by omega⟩] <;> omega
    have p9 : IntKind.wrap .i64 (c + 10 * (i : Int) + 9 + 1) = c + 10 * ((i + 1 : Nat) : Int) := by rw [wrap64 ⟨by omega, by omega⟩] <;> omega
    have m4 := fun k => markTextI k (c + 10 * (i : Int) + 4) (by omega)
    have m5 : (c + 10 * (i : Int) + 5).tmod 3 = (c + 10 * (i : Int) + 5) % 3 := Int.tmod_eq_emod_of_nonneg (by omega)
    simp only [GEntry.enc, GEntry.mkAt] at hset
    simp [tm, hlt, hg, blk_succ, heap_succ, put_succ, storeM, hat_modify, modify_modify', hlv, hml, hs, get_set, set_set_same, GEntry.enc, hset, hhs, p0, p1, p2, p3, p4, p5, p6, p7, p8, p9, m4, m5, rcall155]
    exact ⟨i + 1, by omega, by omega, by simp⟩
  · have : i = ws.length := by omega
    subst this
    simp [tm, hg, blk_succ, hml, hat_modify, hlv]
set_option maxHeartbeats 4000000 in
theorem markChunkS (k lv : Nat) (E : List Heap) (S : Nat) (ws : List GChunk) (c : Int) (hn : ws.length ≤ 1100000) (hc : 1 ≤ c ∧ c ≤ 800000000) (hlv : lv < E.length) (hl : (hat E lv).get S = some (some ⟨0, 6, false, true, rws GChunk.enc ws⟩)) :
    call code (k + 2) 77 [.sl (lv + 1) S 0 [] 0 ws.length, .int .i64 c] E = some ⟨.int .i64 (c + 6 * ws.length), [], E.modify lv fun h => hp h S (mblk GChunk.enc 6 GChunk.mkAt c ws) ws.length⟩ := by
  refine call_run rfl fn77 rfl ?_
  simp [F77]
  refine RunC_loop (fun i : Nat => ⟨tm 59 [(0, .sl (lv + 1) S 0 [] 0 ws.length), (1, .int .i64 (c + 6 * i)), (5, .int .i64 i)], [], E.modify lv fun h => hp h S (mblk GChunk.enc 6 GChunk.mkAt c ws) i⟩)
    (fun i => i ≤ ws.length) (fun i => ws.length - i) 0 (Nat.zero_le _) (by simp; omega) (by simp [tm, hp_zero, modify_id']) fun i hi _ => ?_
  have hg : (hp (hat E lv) S (mblk GChunk.enc 6 GChunk.mkAt c ws) i).get S = some (some ⟨0, 6, false, true, rws GChunk.enc (mix (GChunk.mkAt c) ws i)⟩) := hp_get (by rw [mblk_zero]; exact hl) i
  have hml := mix_len (f := GChunk.mkAt c) hi
  by_cases hlt : i < ws.length
  · have hs := idx_succ' hlt (by omega)
    have hset : (rws GChunk.enc (mix (GChunk.mkAt c) ws i)).set i (GChunk.enc (GChunk.mkAt c i)) = rws GChunk.enc (mix (GChunk.mkAt c) ws (i + 1)) := by rw [rws_set, mix_set hlt]
    have hhs : ∀ h : Heap, (hp h S (mblk GChunk.enc 6 GChunk.mkAt c ws) i).set S (some ⟨0, 6, false, true, rws GChunk.enc (mix (GChunk.mkAt c) ws (i + 1))⟩) = hp h S (mblk GChunk.enc 6 GChunk.mkAt c ws) (i + 1) := fun h => hp_set i
    have p0 : IntKind.wrap .i64 (c + 6 * (i : Int) + 1) = c + 6 * (i : Int) + 1 := by rw [wrap64 ⟨by omega, by omega⟩] <;> omega
    have p1 : IntKind.wrap .i64 (c + 6 * (i : Int) + 1 + 1) = c + 6 * (i : Int) + 2 := by rw [wrap64 ⟨by omega, by omega⟩] <;> omega
    have p2 : IntKind.wrap .i64 (c + 6 * (i : Int) + 2 + 1) = c + 6 * (i : Int) + 3 := by rw [wrap64 ⟨by omega, by omega⟩] <;> omega
    have p3 : IntKind.wrap .i64 (c + 6 * (i : Int) + 3 + 1) = c + 6 * (i : Int) + 4 := by rw [wrap64 ⟨by omega, by omega⟩] <;> omega
    have p4 : IntKind.wrap .i64 (c + 6 * (i : Int) + 4 + 1) = c + 6 * (i : Int) + 5 := by rw [wrap64 ⟨by omega, by omega⟩] <;> omega
    have p5 : IntKind.wrap .i64 (c + 6 * (i : Int) + 5 + 1) = c + 6 * ((i + 1 : Nat) : Int) := by rw [wrap64 ⟨by omega, by omega⟩] <;> omega
    have m0 := fun k => markTextI k (c + 6 * (i : Int)) (by omega)
    have m5 := fun k => markTextI k (c + 6 * (i : Int) + 5) (by omega)
    simp only [GChunk.enc, GChunk.mkAt] at hset
    simp [tm, hlt, hg, blk_succ, heap_succ, put_succ, storeM, hat_modify, modify_modify', hlv, hml, hs, get_set, set_set_same, GChunk.enc, hset, hhs, p0, p1, p2, p3, p4, p5, m0, m5, rcall155]
    exact ⟨i + 1, by omega, by omega, by simp⟩
  · have : i = ws.length := by omega
    subst this
    simp [tm, hg, blk_succ, hml, hat_modify, hlv]
set_option maxHeartbeats 4000000 in
theorem heldHeadS (k : Nat) (n : Nat) (c : Int) (hn : n ≤ 1100000) (hc : 1 ≤ c ∧ c ≤ 800000000) : call code (k + 2) 78 [.rd true (rws GHead.enc (marks GHead.mkAt c n)), .int .i64 c] [] = some ⟨.int .i64 (c + 5 * n), [], []⟩ := by
  refine call_run rfl fn78 rfl ?_
  simp [F78]
  refine RunC_loop (fun i : Nat => ⟨tm 61 [(0, .rd true (rws GHead.enc (marks GHead.mkAt c n))), (1, .int .i64 (c + 5 * i)), (5, .int .i64 i)], [], []⟩)
    (fun i => i ≤ n) (fun i => n - i) 0 (Nat.zero_le _) (by simp; omega) (by simp [tm]) fun i hi _ => ?_
  by_cases hlt : i < n
  · have hs := idx_succ' hlt (by omega)
    have p0 : IntKind.wrap .i64 (c + 5 * (i : Int) + 1) = c + 5 * (i : Int) + 1 := by rw [wrap64 ⟨by omega, by omega⟩] <;> omega
    have p1 : IntKind.wrap .i64 (c + 5 * (i : Int) + 1 + 1) = c + 5 * (i : Int) + 2 := by rw [wrap64 ⟨by omega, by omega⟩] <;> omega
    have p2 : IntKind.wrap .i64 (c + 5 * (i : Int) + 2 + 1) = c + 5 * (i : Int) + 3 := by rw [wrap64 ⟨by omega, by omega⟩] <;> omega
    have p3 : IntKind.wrap .i64 (c + 5 * (i : Int) + 3 + 1) = c + 5 * (i : Int) + 4 := by rw [wrap64 ⟨by omega, by omega⟩] <;> omega
    have p4 : IntKind.wrap .i64 (c + 5 * (i : Int) + 4 + 1) = c + 5 * ((i + 1 : Nat) : Int) := by rw [wrap64 ⟨by omega, by omega⟩] <;> omega
    have m0 := fun k => markTextI k (c + 5 * (i : Int)) (by omega)
    simp [tm, hlt, hs, marks_at, GHead.enc, GHead.mkAt, p0, p1, p2, p3, p4, m0, rcall155]
    exact ⟨i + 1, by omega, by omega, by simp⟩
  · have : i = n := by omega
    subst this
    simp [tm]
set_option maxHeartbeats 4000000 in
theorem heldEntryS (k : Nat) (n : Nat) (c : Int) (hn : n ≤ 1100000) (hc : 1 ≤ c ∧ c ≤ 800000000) : call code (k + 2) 80 [.rd true (rws GEntry.enc (marks GEntry.mkAt c n)), .int .i64 c] [] = some ⟨.int .i64 (c + 10 * n), [], []⟩ := by
  refine call_run rfl fn80 rfl ?_
  simp [F80]
  refine RunC_loop (fun i : Nat => ⟨tm 112 [(0, .rd true (rws GEntry.enc (marks GEntry.mkAt c n))), (1, .int .i64 (c + 10 * i)), (5, .int .i64 i)], [], []⟩)
    (fun i => i ≤ n) (fun i => n - i) 0 (Nat.zero_le _) (by simp; omega) (by simp [tm]) fun i hi _ => ?_
  by_cases hlt : i < n
  · have hs := idx_succ' hlt (by omega)
    have p0 : IntKind.wrap .i64 (c + 10 * (i : Int) + 1) = c + 10 * (i : Int) + 1 := by rw [wrap64 ⟨by omega, by omega⟩] <;> omega
    have p1 : IntKind.wrap .i64 (c + 10 * (i : Int) + 1 + 1) = c + 10 * (i : Int) + 2 := by rw [wrap64 ⟨by omega, by omega⟩] <;> omega
    have p2 : IntKind.wrap .i64 (c + 10 * (i : Int) + 2 + 1) = c + 10 * (i : Int) + 3 := by rw [wrap64 ⟨by omega, by omega⟩] <;> omega
    have p3 : IntKind.wrap .i64 (c + 10 * (i : Int) + 3 + 1) = c + 10 * (i : Int) + 4 := by rw [wrap64 ⟨by omega, by omega⟩] <;> omega
    have p4 : IntKind.wrap .i64 (c + 10 * (i : Int) + 4 + 1) = c + 10 * (i : Int) + 5 := by rw [wrap64 ⟨by omega, by omega⟩] <;> omega
    have p5 : IntKind.wrap .i64 (c + 10 * (i : Int) + 5 + 1) = c + 10 * (i : Int) + 6 := by rw [wrap64 ⟨by omega, by omega⟩] <;> omega
    have p6 : IntKind.wrap .i64 (c + 10 * (i : Int) + 6 + 1) = c + 10 * (i : Int) + 7 := by rw [wrap64 ⟨by omega, by omega⟩] <;> omega
    have p7 : IntKind.wrap .i64 (c + 10 * (i : Int) + 7 + 1) = c + 10 * (i : Int) + 8 := by rw [wrap64 ⟨by omega, by omega⟩] <;> omega
    have p8 : IntKind.wrap .i64 (c + 10 * (i : Int) + 8 + 1) = c + 10 * (i : Int) + 9 := by rw [wrap64 ⟨by omega, by omega⟩] <;> omega
    have p9 : IntKind.wrap .i64 (c + 10 * (i : Int) + 9 + 1) = c + 10 * ((i + 1 : Nat) : Int) := by rw [wrap64 ⟨by omega, by omega⟩] <;> omega
    have m4 := fun k => markTextI k (c + 10 * (i : Int) + 4) (by omega)
    have m5 : (c + 10 * (i : Int) + 5).tmod 3 = (c + 10 * (i : Int) + 5) % 3 := Int.tmod_eq_emod_of_nonneg (by omega)
    simp [tm, hlt, hs, marks_at, GEntry.enc, GEntry.mkAt, p0, p1, p2, p3, p4, p5, p6, p7, p8, p9, m4, m5, rcall155]
    exact ⟨i + 1, by omega, by omega, by simp⟩
  · have : i = n := by omega
    subst this
    simp [tm]
set_option maxHeartbeats 4000000 in
theorem heldChunkS (k : Nat) (n : Nat) (c : Int) (hn : n ≤ 1100000) (hc : 1 ≤ c ∧ c ≤ 800000000) : call code (k + 2) 81 [.rd true (rws GChunk.enc (marks GChunk.mkAt c n)), .int .i64 c] [] = some ⟨.int .i64 (c + 6 * n), [], []⟩ := by
  refine call_run rfl fn81 rfl ?_
  simp [F81]
  refine RunC_loop (fun i : Nat => ⟨tm 71 [(0, .rd true (rws GChunk.enc (marks GChunk.mkAt c n))), (1, .int .i64 (c + 6 * i)), (5, .int .i64 i)], [], []⟩)
    (fun i => i ≤ n) (fun i => n - i) 0 (Nat.zero_le _) (by simp; omega) (by simp [tm]) fun i hi _ => ?_
  by_cases hlt : i < n
  · have hs := idx_succ' hlt (by omega)
    have p0 : IntKind.wrap .i64 (c + 6 * (i : Int) + 1) = c + 6 * (i : Int) + 1 := by rw [wrap64 ⟨by omega, by omega⟩] <;> omega
    have p1 : IntKind.wrap .i64 (c + 6 * (i : Int) + 1 + 1) = c + 6 * (i : Int) + 2 := by rw [wrap64 ⟨by omega, by omega⟩] <;> omega
    have p2 : IntKind.wrap .i64 (c + 6 * (i : Int) + 2 + 1) = c + 6 * (i : Int) + 3 := by rw [wrap64 ⟨by omega, by omega⟩] <;> omega
    have p3 : IntKind.wrap .i64 (c + 6 * (i : Int) + 3 + 1) = c + 6 * (i : Int) + 4 := by rw [wrap64 ⟨by omega, by omega⟩] <;> omega
    have p4 : IntKind.wrap .i64 (c + 6 * (i : Int) + 4 + 1) = c + 6 * (i : Int) + 5 := by rw [wrap64 ⟨by omega, by omega⟩] <;> omega
    have p5 : IntKind.wrap .i64 (c + 6 * (i : Int) + 5 + 1) = c + 6 * ((i + 1 : Nat) : Int) := by rw [wrap64 ⟨by omega, by omega⟩] <;> omega
    have m0 := fun k => markTextI k (c + 6 * (i : Int)) (by omega)
    have m5 := fun k => markTextI k (c + 6 * (i : Int) + 5) (by omega)
    simp [tm, hlt, hs, marks_at, GChunk.enc, GChunk.mkAt, p0, p1, p2, p3, p4, p5, m0, m5, rcall155]
    exact ⟨i + 1, by omega, by omega, by simp⟩
  · have : i = n := by omega
    subst this
    simp [tm]
theorem toHead (k : Nat) (v0 : ByteArray) (v1 : Int) (v2 : Int) (v3 : Int) (v4 : Int)  : call code (k + 2) 138 [.agg [.str v0, .int .i64 v1, .int .i64 v2, .int .i64 v3, .int .i64 v4]] [] = some ⟨.agg [.str v0, .int .i64 v1, .int .i64 v2, .int .i64 v3, .int .i64 v4], [], []⟩ := by
  refine call_run rfl fn138 rfl ?_
  have q0 := toVer
  simp [F138, rcall20, q0, storeM]
theorem toLast (k : Nat) (v0 : Int) (v1 : Int) (v2 : Int) (v3 : Int)  : call code (k + 2) 139 [.agg [.int .i64 v0, .int .i64 v1, .int .i64 v2, .int .i64 v3]] [] = some ⟨.agg [.int .i64 v0, .int .i64 v1, .int .i64 v2, .int .i64 v3], [], []⟩ := by
  refine call_run rfl fn139 rfl ?_
  have q0 := toVer
  simp [F139, rcall20, q0, storeM]
theorem toEntry (k : Nat) (v0 : Int) (v1 : Int) (v2 : Int) (v3 : Int) (v4 : ByteArray) (v5 : Bool) (v6 : Int) (v7 : Int) (v8 : Int) (v9 : Int)  : call code (k + 2) 140 [.agg [.int .i64 v0, .int .i64 v1, .int .i64 v2, .int .i64 v3, .str v4, .bool v5, .int .i64 v6, .int .i64 v7, .int .i64 v8, .int .i64 v9]] [] = some ⟨.agg [.int .i64 v0, .int .i64 v1, .int .i64 v2, .int .i64 v3, .str v4, .bool v5, .int .i64 v6, .int .i64 v7, .int .i64 v8, .int .i64 v9], [], []⟩ := by
  refine call_run rfl fn140 rfl ?_
  have q0 := toVer
  have q1 := toVer
  have q2 := toReq
  simp [F140, rcall20, rcall206, q0, q1, q2, storeM]
theorem eqHead (k : Nat) (v0 : ByteArray) (v1 : Int) (v2 : Int) (v3 : Int) (v4 : Int)  : call code (k + 2) 151 [.agg [.str v0, .int .i64 v1, .int .i64 v2, .int .i64 v3, .int .i64 v4], .agg [.str v0, .int .i64 v1, .int .i64 v2, .int .i64 v3, .int .i64 v4]] [] = some ⟨.bool true, [], []⟩ := by
  refine call_run rfl fn151 rfl ?_
  have q0 := eqVer
  simp [F151, rcall69, q0, storeM]
theorem eqLast (k : Nat) (v0 : Int) (v1 : Int) (v2 : Int) (v3 : Int)  : call code (k + 2) 152 [.agg [.int .i64 v0, .int .i64 v1, .int .i64 v2, .int .i64 v3], .agg [.int .i64 v0, .int .i64 v1, .int .i64 v2, .int .i64 v3]] [] = some ⟨.bool true, [], []⟩ := by
  refine call_run rfl fn152 rfl ?_
  have q0 := eqVer
  simp [F152, rcall69, q0, storeM]
theorem eqEntry (k : Nat) (v0 : Int) (v1 : Int) (v2 : Int) (v3 : Int) (v4 : ByteArray) (v5 : Bool) (v6 : Int) (v7 : Int) (v8 : Int) (v9 : Int)  : call code (k + 2) 153 [.agg [.int .i64 v0, .int .i64 v1, .int .i64 v2, .int .i64 v3, .str v4, .bool v5, .int .i64 v6, .int .i64 v7, .int .i64 v8, .int .i64 v9], .agg [.int .i64 v0, .int .i64 v1, .int .i64 v2, .int .i64 v3, .str v4, .bool v5, .int .i64 v6, .int .i64 v7, .int .i64 v8, .int .i64 v9]] [] = some ⟨.bool true, [], []⟩ := by
  refine call_run rfl fn153 rfl ?_
  have q0 := eqVer
  have q1 := eqVer
  have q2 := eqReq
  simp [F153, rcall69, rcall214, q0, q1, q2, storeM]
theorem eqChunk (k : Nat) (v0 : ByteArray) (v1 : Int) (v2 : Int) (v3 : Int) (v4 : Int) (v5 : ByteArray)  : call code (k + 2) 154 [.agg [.str v0, .int .i64 v1, .int .i64 v2, .int .i64 v3, .int .i64 v4, .str v5], .agg [.str v0, .int .i64 v1, .int .i64 v2, .int .i64 v3, .int .i64 v4, .str v5]] [] = some ⟨.bool true, [], []⟩ := by
  refine call_run rfl fn154 rfl ?_
  have q0 := eqVer
  simp [F154, rcall69, q0, storeM]
theorem szPgState (k : Nat) (l : Int) (v0 : Int) (v1 : Int) (v2 : Int) (v3 : Int) (v4 : Int) (v5 : Int) (v6 : List GHead) (v7 : List GLast) (v8 : List GEntry) (v9 : Int) (v10 : Int) (v11 : List GChunk) (hl : 0 ≤ l ∧ l ≤ 1048576) (b6 : v6.length ≤ 140737488351232) (c6 : ∀ x ∈ v6, x.ok) (b7 : v7.length ≤ 140737488351232) (b8 : v8.length ≤ 140737488351232) (c8 : ∀ x ∈ v8, x.ok) (b11 : v11.length ≤ 140737488351232) (c11 : ∀ x ∈ v11, x.ok) : call code (k + 3) 12 [.agg [.int .i64 v0, .int .i64 v1, .int .i64 v2, .int .i64 v3, .int .i64 v4, .int .i64 v5, .rd true (rws GHead.enc v6), .rd true (rws GLast.enc v7), .rd true (rws GEntry.enc v8), .int .i64 v9, .int .i64 v10, .rd true (rws GChunk.enc v11)], .int .i64 l] [] = some ⟨.int .i64 (szV l ((v6.length + wsum GHead.wt v6) + v7.length + (v8.length + wsum GEntry.wt v8) + (v11.length + wsum GChunk.wt v11))), [], []⟩ := by
  refine call_run rfl fn12 rfl ?_
  have e0 := fun k => szHeadS k (l) v6 ⟨by omega, by omega⟩ b6 c6
  cases d0 : decide (szV (l) (v6.length + wsum GHead.wt v6) < 0)
  rotate_left
  · obtain ⟨a0, z0⟩ := szV_neg d0 (by omega)
    rw [z0] at e0
    try simp only [Int.natCast_add] at e0
    have hr : szV l ((v6.length + wsum GHead.wt v6) + v7.length + (v8.length + wsum GEntry.wt v8) + (v11.length + wsum GChunk.wt v11)) = -1 := szV_gt (by omega)
    rw [hr]; simp [F12, rcall55, rcall56, rcall57, rcall58, e0]
  obtain ⟨a0, z0⟩ := szV_pos d0 (by omega)
  rw [z0] at e0 d0
  try simp only [Int.natCast_add] at e0 d0
  have e1 := fun k => szLastS k (l - (((v6.length + wsum GHead.wt v6) : Nat) : Int)) v7 ⟨by omega, by omega⟩ b7
  cases d1 : decide (szV (l - (((v6.length + wsum GHead.wt v6) : Nat) : Int)) v7.length < 0)
  rotate_left
  · obtain ⟨a1, z1⟩ := szV_neg d1 (by omega)
    rw [z1] at e1
    try simp only [Int.natCast_add] at e1
    have hr : szV l ((v6.length + wsum GHead.wt v6) + v7.length + (v8.length + wsum GEntry.wt v8) + (v11.length + wsum GChunk.wt v11)) = -1 := szV_gt (by omega)
    rw [hr]; simp [F12, rcall55, rcall56, rcall57, rcall58, e0, d0, e1]
  obtain ⟨a1, z1⟩ := szV_pos d1 (by omega)
  rw [z1] at e1 d1
  try simp only [Int.natCast_add] at e1 d1
  have e2 := fun k => szEntryS k (l - (((v6.length + wsum GHead.wt v6) : Nat) : Int) - ((v7.length : Nat) : Int)) v8 ⟨by omega, by omega⟩ b8 c8
  cases d2 : decide (szV (l - (((v6.length + wsum GHead.wt v6) : Nat) : Int) - ((v7.length : Nat) : Int)) (v8.length + wsum GEntry.wt v8) < 0)
  rotate_left
  · obtain ⟨a2, z2⟩ := szV_neg d2 (by omega)
    rw [z2] at e2
    try simp only [Int.natCast_add] at e2
    have hr : szV l ((v6.length + wsum GHead.wt v6) + v7.length + (v8.length + wsum GEntry.wt v8) + (v11.length + wsum GChunk.wt v11)) = -1 := szV_gt (by omega)
    rw [hr]; simp [F12, rcall55, rcall56, rcall57, rcall58, e0, d0, e1, d1, e2]
  obtain ⟨a2, z2⟩ := szV_pos d2 (by omega)
  rw [z2] at e2 d2
  try simp only [Int.natCast_add] at e2 d2
  have e3 := fun k => szChunkS k (l - (((v6.length + wsum GHead.wt v6) : Nat) : Int) - ((v7.length : Nat) : Int) - (((v8.length + wsum GEntry.wt v8) : Nat) : Int)) v11 ⟨by omega, by omega⟩ b11 c11
  cases d3 : decide (szV (l - (((v6.length + wsum GHead.wt v6) : Nat) : Int) - ((v7.length : Nat) : Int) - (((v8.length + wsum GEntry.wt v8) : Nat) : Int)) (v11.length + wsum GChunk.wt v11) < 0)
  rotate_left
  · obtain ⟨a3, z3⟩ := szV_neg d3 (by omega)
    rw [z3] at e3
    try simp only [Int.natCast_add] at e3
    have hr : szV l ((v6.length + wsum GHead.wt v6) + v7.length + (v8.length + wsum GEntry.wt v8) + (v11.length + wsum GChunk.wt v11)) = -1 := szV_gt (by omega)
    rw [hr]; simp [F12, rcall55, rcall56, rcall57, rcall58, e0, d0, e1, d1, e2, d2, e3]
  obtain ⟨a3, z3⟩ := szV_pos d3 (by omega)
  rw [z3] at e3 d3
  try simp only [Int.natCast_add] at e3 d3
  have hr : szV l ((v6.length + wsum GHead.wt v6) + v7.length + (v8.length + wsum GEntry.wt v8) + (v11.length + wsum GChunk.wt v11)) = l - (((v6.length + wsum GHead.wt v6) : Nat) : Int) - ((v7.length : Nat) : Int) - (((v8.length + wsum GEntry.wt v8) : Nat) : Int) - (((v11.length + wsum GChunk.wt v11) : Nat) : Int) := by rw [szV_le (by omega)] <;> omega
  rw [hr]; simp [F12, rcall55, rcall56, rcall57, rcall58, e0, d0, e1, d1, e2, d2, e3, d3]
theorem toHeadS (k : Nat) (ws : List GHead) (hn : ws.length ≤ 1048576) : call code (k + 3) 62 [.rd true (rws GHead.enc ws)] [] = some ⟨.sl 0 0 0 [] 0 ws.length, [⟨0, 5, false, true, rws GHead.enc ws⟩], []⟩ := by
  refine call_run rfl fn62 rfl ?_
  simp [F62, zeroRow]
  refine ⟨⟨by omega, by omega⟩, ?_⟩
  refine RunC_loop (fun i : Nat => ⟨tm 23 [(0, .rd true (rws GHead.enc ws)), (3, .sl 0 66048 0 [] 0 ws.length), (4, .int .i64 i)], [(0, some ⟨0, 5, false, true, []⟩), (66048, some ⟨0, 5, false, true, rws GHead.enc (cpy GHead.zero ws i)⟩)], []⟩)
    (fun i => i ≤ ws.length) (fun i => ws.length - i) 0 (Nat.zero_le _) (by simp; omega) (by simp [tm, rws_cpy, GHead.enc, GHead.zero]) fun i hi _ => ?_
  have hcl := cpy_len (z := GHead.zero) hi
  by_cases hlt : i < ws.length
  · have hst : (rws GHead.enc (cpy GHead.zero ws i)).set i (GHead.enc ws[i]) = rws GHead.enc (cpy GHead.zero ws (i + 1)) := by rw [rws_set, cpy_set hlt]
    have hs := idx_succ' hlt (by omega)
    simp only [GHead.enc] at hst
    simp [tm, hlt, hcl, hst, hs, GHead.enc, rcall138, toHead]
    exact ⟨i + 1, by omega, by omega, by simp, rfl⟩
  · have : i = ws.length := by omega
    subst this
    simp [tm, cpy_all]
theorem toLastS (k : Nat) (ws : List GLast) (hn : ws.length ≤ 1048576) : call code (k + 3) 63 [.rd true (rws GLast.enc ws)] [] = some ⟨.sl 0 0 0 [] 0 ws.length, [⟨0, 4, false, true, rws GLast.enc ws⟩], []⟩ := by
  refine call_run rfl fn63 rfl ?_
  simp [F63, zeroRow]
  refine ⟨⟨by omega, by omega⟩, ?_⟩
  refine RunC_loop (fun i : Nat => ⟨tm 23 [(0, .rd true (rws GLast.enc ws)), (3, .sl 0 66048 0 [] 0 ws.length), (4, .int .i64 i)], [(0, some ⟨0, 4, false, true, []⟩), (66048, some ⟨0, 4, false, true, rws GLast.enc (cpy GLast.zero ws i)⟩)], []⟩)
    (fun i => i ≤ ws.length) (fun i => ws.length - i) 0 (Nat.zero_le _) (by simp; omega) (by simp [tm, rws_cpy, GLast.enc, GLast.zero]) fun i hi _ => ?_
  have hcl := cpy_len (z := GLast.zero) hi
  by_cases hlt : i < ws.length
  · have hst : (rws GLast.enc (cpy GLast.zero ws i)).set i (GLast.enc ws[i]) = rws GLast.enc (cpy GLast.zero ws (i + 1)) := by rw [rws_set, cpy_set hlt]
    have hs := idx_succ' hlt (by omega)
    simp only [GLast.enc] at hst
    simp [tm, hlt, hcl, hst, hs, GLast.enc, rcall139, toLast]
    exact ⟨i + 1, by omega, by omega, by simp, rfl⟩
  · have : i = ws.length := by omega
    subst this
    simp [tm, cpy_all]
theorem toEntryS (k : Nat) (ws : List GEntry) (hn : ws.length ≤ 1048576) : call code (k + 3) 64 [.rd true (rws GEntry.enc ws)] [] = some ⟨.sl 0 0 0 [] 0 ws.length, [⟨0, 10, false, true, rws GEntry.enc ws⟩], []⟩ := by
  refine call_run rfl fn64 rfl ?_
  simp [F64, zeroRow]
  refine ⟨⟨by omega, by omega⟩, ?_⟩
  refine RunC_loop (fun i : Nat => ⟨tm 23 [(0, .rd true (rws GEntry.enc ws)), (3, .sl 0 66048 0 [] 0 ws.length), (4, .int .i64 i)], [(0, some ⟨0, 10, false, true, []⟩), (66048, some ⟨0, 10, false, true, rws GEntry.enc (cpy GEntry.zero ws i)⟩)], []⟩)
    (fun i => i ≤ ws.length) (fun i => ws.length - i) 0 (Nat.zero_le _) (by simp; omega) (by simp [tm, rws_cpy, GEntry.enc, GEntry.zero]) fun i hi _ => ?_
  have hcl := cpy_len (z := GEntry.zero) hi
  by_cases hlt : i < ws.length
  · have hst : (rws GEntry.enc (cpy GEntry.zero ws i)).set i (GEntry.enc ws[i]) = rws GEntry.enc (cpy GEntry.zero ws (i + 1)) := by rw [rws_set, cpy_set hlt]
    have hs := idx_succ' hlt (by omega)
    simp only [GEntry.enc] at hst
    simp [tm, hlt, hcl, hst, hs, GEntry.enc, rcall140, toEntry]
    exact ⟨i + 1, by omega, by omega, by simp, rfl⟩
  · have : i = ws.length := by omega
    subst this
    simp [tm, cpy_all]
theorem toChunkS (k : Nat) (ws : List GChunk) (hn : ws.length ≤ 1048576) : call code (k + 3) 65 [.rd true (rws GChunk.enc ws)] [] = some ⟨.sl 0 0 0 [] 0 ws.length, [⟨0, 6, false, true, rws GChunk.enc ws⟩], []⟩ := by
  refine call_run rfl fn65 rfl ?_
  simp [F65, zeroRow]
  refine ⟨⟨by omega, by omega⟩, ?_⟩
  refine RunC_loop (fun i : Nat => ⟨tm 23 [(0, .rd true (rws GChunk.enc ws)), (3, .sl 0 66048 0 [] 0 ws.length), (4, .int .i64 i)], [(0, some ⟨0, 6, false, true, []⟩), (66048, some ⟨0, 6, false, true, rws GChunk.enc (cpy GChunk.zero ws i)⟩)], []⟩)
    (fun i => i ≤ ws.length) (fun i => ws.length - i) 0 (Nat.zero_le _) (by simp; omega) (by simp [tm, rws_cpy, GChunk.enc, GChunk.zero]) fun i hi _ => ?_
  have hcl := cpy_len (z := GChunk.zero) hi
  by_cases hlt : i < ws.length
  · have hst : (rws GChunk.enc (cpy GChunk.zero ws i)).set i (GChunk.enc ws[i]) = rws GChunk.enc (cpy GChunk.zero ws (i + 1)) := by rw [rws_set, cpy_set hlt]
    have hs := idx_succ' hlt (by omega)
    simp only [GChunk.enc] at hst
    simp [tm, hlt, hcl, hst, hs, GChunk.enc, rcall24, toChunk]
    exact ⟨i + 1, by omega, by omega, by simp, rfl⟩
  · have : i = ws.length := by omega
    subst this
    simp [tm, cpy_all]
theorem eqHeadS (k : Nat) (ws : List GHead) (hn : ws.length ≤ 1048576000) : call code (k + 3) 70 [.rd true (rws GHead.enc ws), .rd true (rws GHead.enc ws)] [] = some ⟨.bool true, [], []⟩ := by
  refine call_run rfl fn70 rfl ?_
  simp [F70]
  refine RunC_loop (fun i : Nat => ⟨tm 27 [(0, .rd true (rws GHead.enc ws)), (1, .rd true (rws GHead.enc ws)), (5, .int .i64 i)], [], []⟩)
    (fun i => i ≤ ws.length) (fun i => ws.length - i) 0 (Nat.zero_le _) (by simp; omega) (by simp [tm]) fun i hi _ => ?_
  by_cases hlt : i < ws.length
  · have hs := idx_succ' hlt (by omega)
    simp [tm, hlt, hs, GHead.enc, rcall151, eqHead]
    exact ⟨i + 1, by omega, by omega, by simp⟩
  · have : i = ws.length := by omega
    subst this
    simp [tm]
theorem eqLastS (k : Nat) (ws : List GLast) (hn : ws.length ≤ 1048576000) : call code (k + 3) 71 [.rd true (rws GLast.enc ws), .rd true (rws GLast.enc ws)] [] = some ⟨.bool true, [], []⟩ := by
  refine call_run rfl fn71 rfl ?_
  simp [F71]
  refine RunC_loop (fun i : Nat => ⟨tm 27 [(0, .rd true (rws GLast.enc ws)), (1, .rd true (rws GLast.enc ws)), (5, .int .i64 i)], [], []⟩)
    (fun i => i ≤ ws.length) (fun i => ws.length - i) 0 (Nat.zero_le _) (by simp; omega) (by simp [tm]) fun i hi _ => ?_
  by_cases hlt : i < ws.length
  · have hs := idx_succ' hlt (by omega)
    simp [tm, hlt, hs, GLast.enc, rcall152, eqLast]
    exact ⟨i + 1, by omega, by omega, by simp⟩
  · have : i = ws.length := by omega
    subst this
    simp [tm]
theorem eqEntryS (k : Nat) (ws : List GEntry) (hn : ws.length ≤ 1048576000) : call code (k + 3) 72 [.rd true (rws GEntry.enc ws), .rd true (rws GEntry.enc ws)] [] = some ⟨.bool true, [], []⟩ := by
  refine call_run rfl fn72 rfl ?_
  simp [F72]
  refine RunC_loop (fun i : Nat => ⟨tm 27 [(0, .rd true (rws GEntry.enc ws)), (1, .rd true (rws GEntry.enc ws)), (5, .int .i64 i)], [], []⟩)
    (fun i => i ≤ ws.length) (fun i => ws.length - i) 0 (Nat.zero_le _) (by simp; omega) (by simp [tm]) fun i hi _ => ?_
  by_cases hlt : i < ws.length
  · have hs := idx_succ' hlt (by omega)
    simp [tm, hlt, hs, GEntry.enc, rcall153, eqEntry]
    exact ⟨i + 1, by omega, by omega, by simp⟩
  · have : i = ws.length := by omega
    subst this
    simp [tm]
theorem eqChunkS (k : Nat) (ws : List GChunk) (hn : ws.length ≤ 1048576000) : call code (k + 3) 73 [.rd true (rws GChunk.enc ws), .rd true (rws GChunk.enc ws)] [] = some ⟨.bool true, [], []⟩ := by
  refine call_run rfl fn73 rfl ?_
  simp [F73]
  refine RunC_loop (fun i : Nat => ⟨tm 27 [(0, .rd true (rws GChunk.enc ws)), (1, .rd true (rws GChunk.enc ws)), (5, .int .i64 i)], [], []⟩)
    (fun i => i ≤ ws.length) (fun i => ws.length - i) 0 (Nat.zero_le _) (by simp; omega) (by simp [tm]) fun i hi _ => ?_
  by_cases hlt : i < ws.length
  · have hs := idx_succ' hlt (by omega)
    simp [tm, hlt, hs, GChunk.enc, rcall154, eqChunk]
    exact ⟨i + 1, by omega, by omega, by simp⟩
  · have : i = ws.length := by omega
    subst this
    simp [tm]
theorem toPgState (k : Nat) (v0 : Int) (v1 : Int) (v2 : Int) (v3 : Int) (v4 : Int) (v5 : Int) (v6 : List GHead) (v7 : List GLast) (v8 : List GEntry) (v9 : Int) (v10 : Int) (v11 : List GChunk) (hv6 : v6.length ≤ 1048576) (hv7 : v7.length ≤ 1048576) (hv8 : v8.length ≤ 1048576) (hv11 : v11.length ≤ 1048576) : call code (k + 4) 14 [.agg [.int .i64 v0, .int .i64 v1, .int .i64 v2, .int .i64 v3, .int .i64 v4, .int .i64 v5, .rd true (rws GHead.enc v6), .rd true (rws GLast.enc v7), .rd true (rws GEntry.enc v8), .int .i64 v9, .int .i64 v10, .rd true (rws GChunk.enc v11)]] [] = some ⟨.agg [.int .i64 v0, .int .i64 v1, .int .i64 v2, .int .i64 v3, .int .i64 v4, .int .i64 v5, .sl 0 0 0 [] 0 v6.length, .sl 0 1 0 [] 0 v7.length, .sl 0 2 0 [] 0 v8.length, .int .i64 v9, .int .i64 v10, .sl 0 3 0 [] 0 v11.length], [⟨0, 5, false, true, rws GHead.enc v6⟩, ⟨0, 4, false, true, rws GLast.enc v7⟩, ⟨0, 10, false, true, rws GEntry.enc v8⟩, ⟨0, 6, false, true, rws GChunk.enc v11⟩], []⟩ := by
  refine call_run rfl fn14 rfl ?_
  have q0 := toPg
  have q1 := toVer
  have q2 := fun k => toHeadS k v6 hv6
  have q3 := fun k => toLastS k v7 hv7
  have q4 := fun k => toEntryS k v8 hv8
  have q5 := toVer
  have q6 := fun k => toChunkS k v11 hv11
  simp [F14, rcall61, rcall20, rcall62, rcall63, rcall64, rcall65, q0, q1, q2, q3, q4, q5, q6, storeM]
theorem eqPgState (k : Nat) (v0 : Int) (v1 : Int) (v2 : Int) (v3 : Int) (v4 : Int) (v5 : Int) (v6 : List GHead) (v7 : List GLast) (v8 : List GEntry) (v9 : Int) (v10 : Int) (v11 : List GChunk) (hv6 : v6.length ≤ 1048576000) (hv7 : v7.length ≤ 1048576000) (hv8 : v8.length ≤ 1048576000) (hv11 : v11.length ≤ 1048576000) : call code (k + 4) 16 [.agg [.int .i64 v0, .int .i64 v1, .int .i64 v2, .int .i64 v3, .int .i64 v4, .int .i64 v5, .rd true (rws GHead.enc v6), .rd true (rws GLast.enc v7), .rd true (rws GEntry.enc v8), .int .i64 v9, .int .i64 v10, .rd true (rws GChunk.enc v11)], .agg [.int .i64 v0, .int .i64 v1, .int .i64 v2, .int .i64 v3, .int .i64 v4, .int .i64 v5, .rd true (rws GHead.enc v6), .rd true (rws GLast.enc v7), .rd true (rws GEntry.enc v8), .int .i64 v9, .int .i64 v10, .rd true (rws GChunk.enc v11)]] [] = some ⟨.bool true, [], []⟩ := by
  refine call_run rfl fn16 rfl ?_
  have q0 := eqPg
  have q1 := eqVer
  have q2 := fun k => eqHeadS k v6 hv6
  have q3 := fun k => eqLastS k v7 hv7
  have q4 := fun k => eqEntryS k v8 hv8
  have q5 := eqVer
  have q6 := fun k => eqChunkS k v11 hv11
  simp [F16, rcall68, rcall69, rcall70, rcall71, rcall72, rcall73, q0, q1, q2, q3, q4, q5, q6, storeM]
end Go.Ae.GA.B
