/- Numbers and words drawn out of bytes. -/
import Derived.Test.YtnfghcflpnlbiaaC3M9
import Derived.Test.YtnfghcflpnlbiaaC3M3
namespace Go.Ae.C3
set_option linter.unusedSimpArgs false
set_option linter.unusedVariables false
/-- The source of a draw: its bytes, its place, its seed. -/
def srcB (l : List UInt8) (at_ : Nat) (sd : Int) : Blk := ⟨0, 3, true, false, [[.rd true (rws encU l), .int .i64 at_, .int .u64 sd]]⟩
theorem l00From (k : Nat) (l : List UInt8) : call code (k + 1) 82 [.rd true (rws encU l)] [] = some ⟨.ptr 0 0 0 [] 0 0, [srcB l 0 0], []⟩ := by
  refine call_run rfl fn82 rfl ?_
  simp [F82, srcB]
def sdN (sd b : Int) : Int := IntKind.wrap .u64 (IntKind.wrap .u64 (IntKind.wrap .u64 (sd * 6364136223846793005) + IntKind.wrap .u64 b) + 1442695040888963407)
def bt (l : List UInt8) (p : Nat) : Nat := if p < l.length then (l.getD p 0).toNat else 0
theorem wu : ∀ v : Nat, v < 256 → IntKind.wrap .u64 (v : Int) = v ∧ IntKind.wrap .i64 (v : Int) = v := by decide +kernel
/-- The number drawn, the seed after it. -/
def nxV (l : List UInt8) (p : Nat) (sd : Int) : Nat := if h : p < l.length then l[p].toNat else (BitVec.ofInt 64 (gShr .u64 (sdN sd 0) 40) &&& BitVec.ofInt 64 255).toNat
def nxS (l : List UInt8) (p : Nat) (sd : Int) : Int := if h : p < l.length then sdN sd (l[p].toNat) else sdN sd 0
theorem and_lt (a : Int) : (BitVec.ofInt 64 a &&& BitVec.ofInt 64 255).toNat < 256 := by
  rw [BitVec.toNat_and]
  exact Nat.lt_of_le_of_lt Nat.and_le_right (by decide)
theorem and255 (a : Int) : IntKind.wrap .i64 (gAnd .u64 a 255) = ((BitVec.ofInt 64 a &&& BitVec.ofInt 64 255).toNat : Nat) := by
  have hlt := and_lt a
  show IntKind.wrap .i64 (IntKind.wrap .u64 ((BitVec.ofInt 64 a &&& BitVec.ofInt 64 255).toNat : Int)) = _
  rw [(wu _ hlt).1, (wu _ hlt).2]
theorem nxV_lt (l : List UInt8) (p : Nat) (sd : Int) : nxV l p sd < 256 := by
  unfold nxV
  split
  · exact UInt8.toNat_lt _
  · exact and_lt _
theorem next (l : List UInt8) (p : Nat) (sd : Int) (hp : p ≤ 1000000) (k lv : Nat) (E : List Heap) (S : Nat) (hlv : lv < E.length) (hg : (hat E lv).get S = some (some (srcB l p sd))) :
    call code (k + 1) 148 [.ptr (lv + 1) S 0 [] 0 0] E = some ⟨.int .i64 (nxV l p sd : Nat), [], E.modify lv fun h => h.set S (some (srcB l (p + 1) (nxS l p sd)))⟩ := by
  have hs : IntKind.wrap .i64 ((p : Int) + 1) = ((p + 1 : Nat) : Int) := by rw [wrap64 ⟨by omega, by omega⟩]; omega
  by_cases hlt : p < l.length
  · have hb : l[p].toNat < 256 := UInt8.toNat_lt _
    have w1 : IntKind.wrap .i64 ((l[p].toNat : Nat) : Int) = ((l[p].toNat : Nat) : Int) := wrap64 ⟨by omega, by omega⟩
    have e1 : nxV l p sd = l[p].toNat := by simp [nxV, hlt]
    have e2 : nxS l p sd = sdN sd l[p].toNat := by simp [nxS, hlt]
    rw [e1, e2]
    refine call_run rfl fn148 rfl ?_
    simp only [srcB] at hg
    have hm := fun f => hat_modify (e := E) hlv f
    have heu : encU l[p] = [.int .u8 ((l[p].toNat : Nat) : Int)] := rfl
    clear e1 e2
    generalize l[p].toNat = b at *
    have hle : ∀ q, q = p + 1 → q ≤ l.length := fun q h => by omega
    generalize hp1 : p + 1 = p1 at hs ⊢
    have hle1 := hle p1 hp1.symm
    simp [F148, hlv, hg, blk_succ, heap_succ, put_succ, hlt, hs, heu, hm, get_set, w1, modify_modify', set_set_same, hle1, srcB, sdN]
  · have he := and255 (gShr .u64 (sdN sd 0) 40)
    have e1 : nxV l p sd = (BitVec.ofInt 64 (gShr .u64 (sdN sd 0) 40) &&& BitVec.ofInt 64 255).toNat := by simp [nxV, hlt]
    have e2 : nxS l p sd = sdN sd 0 := by simp [nxS, hlt]
    rw [e1, e2]
    generalize (BitVec.ofInt 64 (gShr .u64 (sdN sd 0) 40) &&& BitVec.ofInt 64 255).toNat = v at *
    refine call_run rfl fn148 rfl ?_
    simp only [srcB] at hg
    have hm := fun f => hat_modify (e := E) hlv f
    have hle' : ¬ p + 1 ≤ l.length := by omega
    unfold sdN at he
    clear e1 e2
    generalize hp1 : p + 1 = p1 at *
    simp [F148, hlv, hg, blk_succ, heap_succ, put_succ, hlt, hs, hm, get_set, modify_modify', set_set_same, hle', srcB, sdN, he]
/-- pick: a number below n. -/
theorem pick (l : List UInt8) (p n : Nat) (sd : Int) (hp : p ≤ 1000000) (hn : 2 ≤ n ∧ n ≤ 200) (k lv : Nat) (E : List Heap) (S : Nat) (hlv : lv < E.length) (hg : (hat E lv).get S = some (some (srcB l p sd))) :
    call code (k + 2) 134 [.ptr (lv + 1) S 0 [] 0 0, .int .i64 n] E = some ⟨.int .i64 (nxV l p sd % n : Nat), [], E.modify lv fun h => h.set S (some (srcB l (p + 1) (nxS l p sd)))⟩ := by
  refine call_run rfl fn134 rfl ?_
  have hx := fun k l0 => next l p sd hp k (lv + 1) (l0 :: E) S (by simp; omega) (by simpa using hg)
  have d1 : decide ((n : Int) ≤ 1) = false := by simp; omega
  have d2 : decide ((200 : Int) < (n : Int)) = false := by simp; omega
  have n0 : ¬ n = 0 := by omega
  generalize nxV l p sd = x at *
  have e1 : (x : Int).tmod (n : Int) = ((x % n : Nat) : Int) := rfl
  generalize x % n = r at *
  simp [F134, d1, d2, n0, rcall148, hx, e1]
/-- The bytes drawn, the seed after them. -/
def wdN (l : List UInt8) (p : Nat) (sd : Int) : Nat → List UInt8 × Int
  | 0 => ([], sd)
  | i + 1 => ((wdN l p sd i).1 ++ [UInt8.ofNat (nxV l (p + i) (wdN l p sd i).2)], nxS l (p + i) (wdN l p sd i).2)
theorem wdN_len (l : List UInt8) (p : Nat) (sd : Int) : ∀ i, (wdN l p sd i).1.length = i
  | 0 => rfl
  | i + 1 => by simp [wdN, wdN_len l p sd i]
def wd (l : List UInt8) (p n : Nat) (sd : Int) : List UInt8 × Int := wdN l (p + 1) (nxS l p sd) (nxV l p sd % n)
theorem wd_len (l : List UInt8) (p n : Nat) (sd : Int) (hn : 0 < n) : (wd l p n sd).1.length < n := by
  rw [wd, wdN_len]; exact Nat.mod_lt _ hn
set_option maxHeartbeats 4000000 in
theorem word (l : List UInt8) (p n : Nat) (sd : Int) (hp : p ≤ 1000) (hn : 2 ≤ n ∧ n ≤ 200) (k lv : Nat) (E : List Heap) (S : Nat) (hlv : lv < E.length) (hg : (hat E lv).get S = some (some (srcB l p sd))) :
    call code (k + 3) 122 [.ptr (lv + 1) S 0 [] 0 0, .int .i64 n] E = some ⟨.str (B (wd l p n sd).1), [], E.modify lv fun h => h.set S (some (srcB l (p + 1 + nxV l p sd % n) (wd l p n sd).2))⟩ := by
  refine call_run rfl fn122 rfl ?_
  have hx := fun k l0 => pick l p n sd (by omega) hn k (lv + 1) (l0 :: E) S (by simp; omega) (by simpa using hg)
  have hr : nxV l p sd % n < n := Nat.mod_lt _ (by omega)
  unfold wd
  generalize nxV l p sd % n = r at *
  generalize nxS l p sd = sd0 at *
  simp [F122, rcall134, hx]
  refine RunC_loop (fun i : Nat => ⟨tm 23 [(0, .ptr (lv + 1) S 0 [] 0 0), (5, .sl 0 65536 0 [] 0 i), (6, .int .i64 ((r - i : Nat) : Int))], [(65536, some ⟨0, 1, false, true, rws encU (wdN l (p + 1) sd0 i).1⟩)], E.modify lv fun h => h.set S (some (srcB l (p + 1 + i) (wdN l (p + 1) sd0 i).2))⟩)
    (fun i => i ≤ r) (fun i => r - i) 0 (Nat.zero_le _) (by simp; omega) (by simp [tm, wdN]) fun i hi _ => ?_
  have hwl := wdN_len l (p + 1) sd0 i
  by_cases hlt : i < r
  · have hlv' : lv < (E.modify lv fun h => h.set S (some (srcB l (p + 1 + i) (wdN l (p + 1) sd0 i).2))).length := by simpa using hlv
    have hg' : (hat (E.modify lv fun h => h.set S (some (srcB l (p + 1 + i) (wdN l (p + 1) sd0 i).2))) lv).get S = some (some (srcB l (p + 1 + i) (wdN l (p + 1) sd0 i).2)) := by rw [hat_modify hlv, get_set, if_pos rfl]
    have hnx := fun k l0 => next l (p + 1 + i) (wdN l (p + 1) sd0 i).2 (by omega) k (lv + 1) (l0 :: E.modify lv fun h => h.set S (some (srcB l (p + 1 + i) (wdN l (p + 1) sd0 i).2))) S (by simp; omega) (by simpa using hg')
    have hv := nxV_lt l (p + 1 + i) (wdN l (p + 1) sd0 i).2
    have hw8 := wrap8 hv
    have hnext : wdN l (p + 1) sd0 (i + 1) = ((wdN l (p + 1) sd0 i).1 ++ [UInt8.ofNat (nxV l (p + 1 + i) (wdN l (p + 1) sd0 i).2)], nxS l (p + 1 + i) (wdN l (p + 1) sd0 i).2) := rfl
    have hd : decide ((0 : Int) < ((r - i : Nat) : Int)) = true := by simp; omega
    have hsub : IntKind.wrap .i64 (((r - i : Nat) : Int) - 1) = ((r - (i + 1) : Nat) : Int) := by rw [wrap64 ⟨by omega, by omega⟩]; omega
    have happ : ∀ x : UInt8, rws encU (wdN l (p + 1) sd0 i).1 ++ [[.int .u8 (x.toNat : Int)]] = rws encU ((wdN l (p + 1) sd0 i).1 ++ [x]) := fun x => by simp [rws, encU]
    have hrl := rws_len (enc := encU) (wdN l (p + 1) sd0 i).1
    rw [hwl] at hrl
    clear hg hg' hlv' hwl
    generalize hW' : wdN l (p + 1) sd0 (i + 1) = W' at *
    generalize wdN l (p + 1) sd0 i = W at *
    generalize nxV l (p + 1 + i) W.2 = v at *
    generalize nxS l (p + 1 + i) W.2 = s1 at *
    have happ1 := happ (UInt8.ofNat v)
    generalize hR' : rws encU (W.1 ++ [UInt8.ofNat v]) = R' at *
    generalize rws encU W.1 = R at *
    generalize ((UInt8.ofNat v).toNat : Int) = cv at *
    generalize hrr : ((r - (i + 1) : Nat) : Int) = rr at *
    generalize ((r - i : Nat) : Int) = r0 at *
    simp [tm, hd, rcall148, hnx, hw8, source, evalW, hrl, happ1, modify_modify', set_set_same, hsub]
    exact ⟨by omega, i + 1, by omega, by omega, ⟨rfl, hrr.symm⟩, by rw [hW', hnext, hR'], by rw [hW', hnext]; rfl⟩
  · have : i = r := by omega
    subst this
    have hb : bytesOf (rws encU (wdN l (p + 1) sd0 i).1) = some (wdN l (p + 1) sd0 i).1 := bytesOf_rws _
    have hrl := rws_len (enc := encU) (wdN l (p + 1) sd0 i).1
    rw [hwl] at hrl
    have ht : (rws encU (wdN l (p + 1) sd0 i).1).take i = rws encU (wdN l (p + 1) sd0 i).1 := List.take_of_length_le (by omega)
    simp [tm, hb, ht, hrl, B]
theorem a8Word (k : Nat) (l : List UInt8) : call code (k + 4) 65 [.rd true (rws encU l)] [] = some ⟨.str (B (wd l 0 40 0).1), [], []⟩ := by
  refine call_run rfl fn65 rfl ?_
  have h1 := fun k => l00From k l
  have h2 := fun k lv E S hlv hg => word l 0 40 0 (by omega) (by omega) k lv E S hlv hg
  generalize (wd l 0 40 0).1 = w at *
  generalize (wd l 0 40 0).2 = s at *
  have c0 : ((0 : Nat) : Int) = 0 := rfl
  have c40 : ((40 : Nat) : Int) = 40 := rfl
  generalize 0 + 1 + nxV l 0 0 % 40 = q at *
  simp only [srcB, c0, c40] at h1 h2
  simp [F65, rcall82, h1, rcall122, h2]
theorem a8Mix (k : Nat) (l : List UInt8) (hl : l.length ≤ 1048576) : call code (k + 1) 66 [.int .i64 7, .rd true (rws encU l)] [] = some ⟨.sl 0 0 0 [] 0 (l.length + 1), [⟨0, 1, false, true, rws encU (7 :: l)⟩], []⟩ := by
  refine call_run rfl fn66 rfl ?_
  have h7 : rws encU (7 :: l) = [.int .u8 7] :: rws encU l := rfl
  have hrl := rws_len (enc := encU) l
  have hall : ∀ x ∈ rws encU l, x.length = 1 := by
    intro x hx
    simp only [rws, List.mem_map] at hx
    obtain ⟨a, _, rfl⟩ := hx
    rfl
  rw [h7]
  generalize rws encU l = R at *
  simp [F66, evalW, source, hrl]
  exact ⟨hall, by omega, by omega, by decide⟩
/-- The body drawn. -/
def bodyL (l : List UInt8) : List UInt8 := ((wd l 0 40 0).1 ++ (wd (7 :: l) 0 40 0).1).take 64
theorem a8Body (k : Nat) (l : List UInt8) (hl : l.length ≤ 1048576) : call code (k + 5) 31 [.rd true (rws encU l)] [] = some ⟨.str (B (bodyL l)), [], []⟩ := by
  refine call_run rfl fn31 rfl ?_
  have h1 := fun k => a8Word k l
  have h2 := fun k => a8Word k (7 :: l)
  have h3 := fun k => a8Mix k l hl
  have l1 := wd_len l 0 40 0 (by omega)
  have l2 := wd_len (7 :: l) 0 40 0 (by omega)
  have ht : (rws encU (7 :: l)).take (l.length + 1) = rws encU (7 :: l) := List.take_of_length_le (by rw [rws_len]; simp)
  have hrl : (rws encU (7 :: l)).length = l.length + 1 := by rw [rws_len]; simp
  unfold bodyL
  generalize (wd l 0 40 0).1 = w1 at *
  generalize (wd (7 :: l) 0 40 0).1 = w2 at *
  generalize rws encU (7 :: l) = R at *
  have happ := B_app w1 w2
  generalize hw : w1 ++ w2 = w at *
  have hwl : w.length ≤ 100 := by rw [← hw, List.length_append]; omega
  by_cases hc : 64 < w.length
  · have hc' : (64 : Int) < (w.length : Int) := by omega
    have hcut : (B w).extract 0 64 = B (w.take 64) := by rw [B_cut]; simp
    have hle : (64 : Int) ≤ (w.length : Int) := by omega
    simp [F31, rcall65, h1, rcall66, h3, ht, hrl, h2, happ, hc', hc, hle, hcut]
    omega
  · have hc' : ¬ (64 : Int) < (w.length : Int) := by omega
    have hcut : (B w).extract 0 w.length = B (w.take 64) := by rw [B_cut]; simp; rw [List.take_of_length_le (by omega)]
    simp [F31, rcall65, h1, rcall66, h3, ht, hrl, h2, happ, hc', hc, hcut]
    omega
theorem bodyL_len (l : List UInt8) : (bodyL l).length ≤ 64 := by simp [bodyL]; omega
end Go.Ae.C3
namespace Go.Ae.C3
set_option linter.unusedSimpArgs false
set_option linter.unusedVariables false
def shAt (ws : List GShard) (i : Nat) : GShard := ws.getD i .zero
def hgood (a b q : Nat) (ws : List GShard) (i : Nat) : Bool := inB (shAt ws i).Pos 0 (((a + b : Nat) : Int) - 1) && (!(decide ((0 : Int) < (i : Int))) || !decide ((shAt ws i).Pos ≤ (shAt ws (i - 1)).Pos)) && !(((shAt ws i).Bytes.size : Int) != (q : Int))
def haveL (a b q : Nat) (ws : List GShard) : Bool := (List.range ws.length).all (hgood a b q ws)
def haveB (K M sz : Int) (ws : List GShard) : Bool := codeB K M && inB sz 0 64 && haveL K.toNat M.toNat (psz K.toNat sz.toNat) ws
theorem haveL_true {a b q : Nat} {ws : List GShard} (h : ∀ i, i < ws.length → hgood a b q ws i = true) : haveL a b q ws = true := by
  unfold haveL; rw [List.all_eq_true]; exact fun i hi => h i (List.mem_range.1 hi)
theorem haveL_false {a b q : Nat} {ws : List GShard} {i : Nat} (hi : i < ws.length) (h : hgood a b q ws i = false) : haveL a b q ws = false := by
  unfold haveL; rw [List.all_eq_false]; exact ⟨i, List.mem_range.2 hi, by simp [h]⟩
set_option maxHeartbeats 8000000 in
theorem haveOk (k : Nat) (K M sz : Int) (ws : List GShard) (hn : ws.length ≤ 1048576) : call code (k + 3) 36 [.agg [.int .i64 K, .int .i64 M], .int .i64 sz, .rd true (rws GShard.enc ws)] [] = some ⟨.bool (haveB K M sz ws), [], []⟩ := by
  refine call_run rfl fn36 rfl ?_
  have c0 := fun k => codeOk k K M
  have b0 := fun k => between k sz 0 64
  unfold haveB
  cases hc : codeB K M
  · simp [F36, rcall84, c0, hc]
  cases hb : inB sz 0 64
  · simp [F36, rcall84, c0, hc, rcall86, b0, hb]
  obtain ⟨a, b, rfl, rfl, h1, h2, h3⟩ := codeB_nat hc
  have hb' := hb
  simp [inB] at hb'
  obtain ⟨n, rfl⟩ : ∃ n : Nat, sz = n := ⟨sz.toNat, by omega⟩
  simp only [Int.toNat_natCast, Bool.true_and]
  have p0 := fun k => piece k a n b ⟨h1, by omega⟩ (by omega)
  generalize psz a n = q at *
  simp [F36, rcall84, c0, hc, rcall86, b0, hb]
  refine RunC_loop (fun i : Nat => ⟨tm 54 [(1, .int .i64 n), (2, .rd true (rws GShard.enc ws)), (3, .ptr 0 0 0 [] 0 0), (17, .rd true (rws GShard.enc ws)), (18, .int .i64 ws.length), (19, .int .i64 i)], [(0, some ⟨0, 2, true, false, [[.int .i64 a, .int .i64 b]]⟩)], []⟩)
    (fun i => i ≤ ws.length ∧ ∀ j, j < i → hgood a b q ws j = true) (fun i => ws.length - i) 0 ⟨Nat.zero_le _, fun j h => by omega⟩ (by simp; omega) (by simp [tm]) fun i hi _ => ?_
  obtain ⟨hi, hall⟩ := hi
  by_cases hlt : i < ws.length
  · have hs := idx_succ' hlt (by omega)
    have ip := fun k => isPos k a b ws[i].Pos (by omega)
    have hx : shAt ws i = ws[i] := by simp [shAt, List.getD_eq_getElem?_getD, hlt]
    have hg : hgood a b q ws i = (inB ws[i].Pos 0 (((a + b : Nat) : Int) - 1) && (!(decide ((0 : Int) < (i : Int))) || !decide (ws[i].Pos ≤ (shAt ws (i - 1)).Pos)) && !((ws[i].Bytes.size : Int) != (q : Int))) := by simp only [hgood, hx]
    have hfin : hgood a b q ws i = false → haveL a b q ws = false := haveL_false hlt
    have hnx : hgood a b q ws i = true → ∀ j, j < i + 1 → hgood a b q ws j = true := fun h j hj => by
      rcases Nat.lt_succ_iff_lt_or_eq.1 hj with h' | rfl
      · exact hall j h'
      · exact h
    generalize hgd : hgood a b q ws i = gd at *
    generalize inB ws[i].Pos 0 (((a + b : Nat) : Int) - 1) = c1 at *
    by_cases h0 : i = 0
    · subst h0
      have e0 : decide ((0 : Int) < ((0 : Nat) : Int)) = false := rfl
      rw [e0] at hg
      cases c1
      · simp at hg
        rw [hfin hg]
        simp [tm, hlt, GShard.enc, rcall79, ip]
      · by_cases h4 : ws[0].Bytes.size = q
        · have h4' : ((ws[0].Bytes.size : Int) != (q : Int)) = false := by simp; omega
          rw [h4'] at hg
          simp at hg
          have h5 := hnx hg
          have w1 : IntKind.wrap .i64 1 = 1 := wrap64 ⟨by omega, by omega⟩
          simp [tm, hlt, GShard.enc, rcall79, ip, rcall87, p0, h4', hs, w1]
          exact ⟨1, ⟨by omega, h5⟩, by omega, by simp⟩
        · have h4' : ((ws[0].Bytes.size : Int) != (q : Int)) = true := by simp; omega
          rw [h4'] at hg
          simp at hg
          rw [hfin hg]
          simp [tm, hlt, GShard.enc, rcall79, ip, rcall87, p0, h4']
    · have e0 : decide ((0 : Int) < (i : Int)) = true := by simp; omega
      have e1 : IntKind.wrap .i64 ((i : Int) - 1) = ((i - 1 : Nat) : Int) := by rw [wrap64 ⟨by omega, by omega⟩]; omega
      obtain ⟨j, hj⟩ : ∃ j, i - 1 = j := ⟨_, rfl⟩
      have hj1 : j < ws.length := by omega
      have hpos : 0 < i := by omega
      have hx1 : shAt ws j = ws[j] := by simp [shAt, List.getD_eq_getElem?_getD, hj1]
      rw [hj] at e1
      rw [e0, hj, hx1] at hg
      cases c1
      · simp at hg
        rw [hfin hg]
        simp [tm, hlt, GShard.enc, rcall79, ip]
      · by_cases h3 : ws[i].Pos ≤ ws[j].Pos
        · have h3' : decide (ws[i].Pos ≤ ws[j].Pos) = true := by simpa using h3
          rw [h3'] at hg
          simp at hg
          rw [hfin hg]
          simp [tm, hlt, GShard.enc, rcall79, ip, hpos, e0, e1, hj1, h3]
        · have h3' : decide (ws[i].Pos ≤ ws[j].Pos) = false := by simpa using h3
          rw [h3'] at hg
          by_cases h4 : ws[i].Bytes.size = q
          · have h4' : ((ws[i].Bytes.size : Int) != (q : Int)) = false := by simp; omega
            rw [h4'] at hg
            simp at hg
            have h5 := hnx hg
            simp [tm, hlt, GShard.enc, rcall79, ip, hpos, e0, e1, hj1, h3, rcall87, p0, h4', hs]
            exact ⟨i + 1, ⟨by omega, h5⟩, by omega, by simp⟩
          · have h4' : ((ws[i].Bytes.size : Int) != (q : Int)) = true := by simp; omega
            rw [h4'] at hg
            simp at hg
            rw [hfin hg]
            simp [tm, hlt, GShard.enc, rcall79, ip, hpos, e0, e1, hj1, h3, rcall87, p0, h4']
  · have : i = ws.length := by omega
    subst this
    rw [haveL_true hall]
    simp [tm]
set_option maxHeartbeats 8000000 in
theorem l04Have (k : Nat) (K M sz : Int) (ws : List GShard) (hn : ws.length ≤ 1048576) : call code (k + 3) 70 [.agg [.int .i64 K, .int .i64 M], .int .i64 sz, .rd true (rws GShard.enc ws)] [] = some ⟨.bool (haveB K M sz ws), [], []⟩ := by
  refine call_run rfl fn70 rfl ?_
  have c0 := fun k => l04Code k K M
  have b0 := fun k => l00In k sz 0 64
  unfold haveB
  cases hc : codeB K M
  · simp [F70, rcall88, c0, hc]
  cases hb : inB sz 0 64
  · simp [F70, rcall88, c0, hc, rcall77, b0, hb]
  obtain ⟨a, b, rfl, rfl, h1, h2, h3⟩ := codeB_nat hc
  have hb' := hb
  simp [inB] at hb'
  obtain ⟨n, rfl⟩ : ∃ n : Nat, sz = n := ⟨sz.toNat, by omega⟩
  simp only [Int.toNat_natCast, Bool.true_and]
  have p0 := fun k => l04Size k a n b ⟨h1, by omega⟩ (by omega)
  generalize psz a n = q at *
  simp [F70, rcall88, c0, hc, rcall77, b0, hb]
  refine RunC_loop (fun i : Nat => ⟨tm 65 [(1, .int .i64 n), (2, .rd true (rws GShard.enc ws)), (3, .ptr 0 0 0 [] 0 0), (7, .int .i64 i)], [(0, some ⟨0, 2, true, false, [[.int .i64 a, .int .i64 b]]⟩)], []⟩)
    (fun i => i ≤ ws.length ∧ ∀ j, j < i → hgood a b q ws j = true) (fun i => ws.length - i) 0 ⟨Nat.zero_le _, fun j h => by omega⟩ (by simp; omega) (by simp [tm]) fun i hi _ => ?_
  obtain ⟨hi, hall⟩ := hi
  by_cases hlt : i < ws.length
  · have hs := idx_succ' hlt (by omega)
    have ip := fun k => l00In k ws[i].Pos 0 (((a + b : Nat) : Int) - 1)
    have s1 : IntKind.wrap .i64 ((a : Int) + (b : Int)) = ((a + b : Nat) : Int) := by rw [wrap64 ⟨by omega, by omega⟩]; omega
    have s2 : IntKind.wrap .i64 (((a + b : Nat) : Int) - 1) = ((a + b : Nat) : Int) - 1 := wrap64 ⟨by omega, by omega⟩
    have hx : shAt ws i = ws[i] := by simp [shAt, List.getD_eq_getElem?_getD, hlt]
    have hg : hgood a b q ws i = (inB ws[i].Pos 0 (((a + b : Nat) : Int) - 1) && (!(decide ((0 : Int) < (i : Int))) || !decide (ws[i].Pos ≤ (shAt ws (i - 1)).Pos)) && !((ws[i].Bytes.size : Int) != (q : Int))) := by simp only [hgood, hx]
    have hfin : hgood a b q ws i = false → haveL a b q ws = false := haveL_false hlt
    have hnx : hgood a b q ws i = true → ∀ j, j < i + 1 → hgood a b q ws j = true := fun h j hj => by
      rcases Nat.lt_succ_iff_lt_or_eq.1 hj with h' | rfl
      · exact hall j h'
      · exact h
    generalize hgd : hgood a b q ws i = gd at *
    generalize inB ws[i].Pos 0 (((a + b : Nat) : Int) - 1) = c1 at *
    generalize a + b = ab at *
    by_cases h0 : i = 0
    · subst h0
      have e0 : decide ((0 : Int) < ((0 : Nat) : Int)) = false := rfl
      rw [e0] at hg
      cases c1
      · simp at hg
        rw [hfin hg]
        simp [tm, hlt, GShard.enc, s1, s2, rcall77, ip]
      · by_cases h4 : ws[0].Bytes.size = q
        · have h4' : ((ws[0].Bytes.size : Int) != (q : Int)) = false := by simp; omega
          rw [h4'] at hg
          simp at hg
          have h5 := hnx hg
          have w1 : IntKind.wrap .i64 1 = 1 := wrap64 ⟨by omega, by omega⟩
          simp [tm, hlt, GShard.enc, s1, s2, rcall77, ip, rcall123, p0, h4', hs, w1]
          exact ⟨1, ⟨by omega, h5⟩, by omega, by simp⟩
        · have h4' : ((ws[0].Bytes.size : Int) != (q : Int)) = true := by simp; omega
          rw [h4'] at hg
          simp at hg
          rw [hfin hg]
          simp [tm, hlt, GShard.enc, s1, s2, rcall77, ip, rcall123, p0, h4']
    · have e0 : decide ((0 : Int) < (i : Int)) = true := by simp; omega
      have e1 : IntKind.wrap .i64 ((i : Int) - 1) = ((i - 1 : Nat) : Int) := by rw [wrap64 ⟨by omega, by omega⟩]; omega
      obtain ⟨j, hj⟩ : ∃ j, i - 1 = j := ⟨_, rfl⟩
      have hj1 : j < ws.length := by omega
      have hpos : 0 < i := by omega
      have hx1 : shAt ws j = ws[j] := by simp [shAt, List.getD_eq_getElem?_getD, hj1]
      rw [hj] at e1
      rw [e0, hj, hx1] at hg
      cases c1
      · simp at hg
        rw [hfin hg]
        simp [tm, hlt, GShard.enc, s1, s2, rcall77, ip]
      · by_cases h3 : ws[i].Pos ≤ ws[j].Pos
        · have h3' : decide (ws[i].Pos ≤ ws[j].Pos) = true := by simpa using h3
          rw [h3'] at hg
          simp at hg
          rw [hfin hg]
          simp [tm, hlt, GShard.enc, s1, s2, rcall77, ip, hpos, e0, e1, hj1, h3]
        · have h3' : decide (ws[i].Pos ≤ ws[j].Pos) = false := by simpa using h3
          rw [h3'] at hg
          by_cases h4 : ws[i].Bytes.size = q
          · have h4' : ((ws[i].Bytes.size : Int) != (q : Int)) = false := by simp; omega
            rw [h4'] at hg
            simp at hg
            have h5 := hnx hg
            simp [tm, hlt, GShard.enc, s1, s2, rcall77, ip, hpos, e0, e1, hj1, h3, rcall123, p0, h4', hs]
            exact ⟨i + 1, ⟨by omega, h5⟩, by omega, by simp⟩
          · have h4' : ((ws[i].Bytes.size : Int) != (q : Int)) = true := by simp; omega
            rw [h4'] at hg
            simp at hg
            rw [hfin hg]
            simp [tm, hlt, GShard.enc, s1, s2, rcall77, ip, hpos, e0, e1, hj1, h3, rcall123, p0, h4']
  · have : i = ws.length := by omega
    subst this
    rw [haveL_true hall]
    simp [tm]
end Go.Ae.C3
