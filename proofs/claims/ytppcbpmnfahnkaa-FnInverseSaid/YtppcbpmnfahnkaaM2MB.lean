/- ShardAt and ShardsOf, the program's and the reference's. -/
import Derived.Test.YtppcbpmnfahnkaaM2MA
import Derived.Test.YtppcbpmnfahnkaaM2M2
namespace Go.Ae.M2
set_option linter.unusedSimpArgs false
set_option linter.unusedVariables false
def codeB (K M : Int) : Bool := inB K 1 4 && inB M 0 3
theorem codeOk (k : Nat) (K M : Int) : call code (k + 2) 26 [.agg [.int .i64 K, .int .i64 M]] [] = some ⟨.bool (codeB K M), [], []⟩ := by
  refine call_run rfl fn26 rfl ?_
  have h1 := fun k => between k K 1 4
  have h2 := fun k => between k M 0 3
  cases c1 : inB K 1 4
  · simp [F26, rcall30, h1, c1, codeB]
  · simp [F26, rcall30, h1, h2, c1, codeB]
theorem codeB_nat {K M : Int} (h : codeB K M = true) : ∃ a b : Nat, K = a ∧ M = b ∧ 1 ≤ a ∧ a ≤ 4 ∧ b ≤ 3 := by
  simp [codeB, inB] at h
  exact ⟨K.toNat, M.toNat, by omega, by omega, by omega, by omega, by omega⟩
theorem shs_len (K M : Nat) (l : List UInt8) : (shs K M l).length = K + M := by simp [shs, pcs_len]
end Go.Ae.M2
namespace Go.Ae.M2
set_option linter.unusedSimpArgs false
set_option linter.unusedVariables false
/-- The source of a draw: its bytes, its place, its seed. -/
def srcB (l : List UInt8) (at_ : Nat) (sd : Int) : Blk := ⟨0, 3, true, false, [[.rd true (rws encU l), .int .i64 at_, .int .u64 sd]]⟩
theorem l00From (k : Nat) (l : List UInt8) : call code (k + 1) 51 [.rd true (rws encU l)] [] = some ⟨.ptr 0 0 0 [] 0 0, [srcB l 0 0], []⟩ := by
  refine call_run rfl fn51 rfl ?_
  simp [F51, srcB]
def sdN (sd b : Int) : Int := IntKind.wrap .u64 (IntKind.wrap .u64 (IntKind.wrap .u64 (sd * 6364136223846793005) + IntKind.wrap .u64 b) + 1442695040888963407)
def bt (l : List UInt8) (p : Nat) : Nat := if p < l.length then (l.getD p 0).toNat else 0
theorem wu : ∀ v : Nat, v < 256 → IntKind.wrap .u64 (v : Int) = v ∧ IntKind.wrap .i64 (v : Int) = v := by decide +kernel
/-- The number drawn, the seed after it. -/
def nxV (l : List UInt8) (p : Nat) (sd : Int) : Nat := if h : p < l.length then l[p].toNat else (BitVec.ofInt 64 (gShr .u64 (sdN sd 0) 40) &&& BitVec.ofInt 64 255).toNat
def nxS (l : List UInt8) (p : Nat) (sd : Int) : Int := if h : p < l.length then sdN sd (l[p].toNat) else sdN sd 0
theorem and_lt (a : Int) : (BitVec.ofInt 64 a &&& BitVec.ofInt 64 255).toNat < 256 := by
  rw [BitVec.toNat_and]
  exact Nat.lt_of_le_of_lt Nat.and_le_right (by decide)
theorem and255 (a : Int) : IntKind.wrap .i64 (gAnd .u64 a 255) = ((BitVec.ofInt 64 a &&& BitVec.ofInt 64 255).toNat : Nat) := by
  have hlt := and_lt a
  show IntKind.wrap .i64 (IntKind.wrap .u64 ((BitVec.ofInt 64 a &&& BitVec.ofInt 64 255).toNat : Int)) = _
  rw [(wu _ hlt).1, (wu _ hlt).2]
theorem nxV_lt (l : List UInt8) (p : Nat) (sd : Int) : nxV l p sd < 256 := by
  unfold nxV
  split
  · exact UInt8.toNat_lt _
  · exact and_lt _
theorem next (l : List UInt8) (p : Nat) (sd : Int) (hp : p ≤ 1000000) (k lv : Nat) (E : List Heap) (S : Nat) (hlv : lv < E.length) (hg : (hat E lv).get S = some (some (srcB l p sd))) :
    call code (k + 1) 71 [.ptr (lv + 1) S 0 [] 0 0] E = some ⟨.int .i64 (nxV l p sd : Nat), [], E.modify lv fun h => h.set S (some (srcB l (p + 1) (nxS l p sd)))⟩ := by
  have hs : IntKind.wrap .i64 ((p : Int) + 1) = ((p + 1 : Nat) : Int) := by rw [wrap64 ⟨by omega, by omega⟩]; omega
  by_cases hlt : p < l.length
  · have hb : l[p].toNat < 256 := UInt8.toNat_lt _
    have w1 : IntKind.wrap .i64 ((l[p].toNat : Nat) : Int) = ((l[p].toNat : Nat) : Int) := wrap64 ⟨by omega, by omega⟩
    have e1 : nxV l p sd = l[p].toNat := by simp [nxV, hlt]
    have e2 : nxS l p sd = sdN sd l[p].toNat := by simp [nxS, hlt]
    rw [e1, e2]
    refine call_run rfl fn71 rfl ?_
    simp only [srcB] at hg
    have hm := fun f => hat_modify (e := E) hlv f
    have heu : encU l[p] = [.int .u8 ((l[p].toNat : Nat) : Int)] := rfl
    clear e1 e2
    generalize l[p].toNat = b at *
    have hle : ∀ q, q = p + 1 → q ≤ l.length := fun q h => by omega
    generalize hp1 : p + 1 = p1 at hs ⊢
    have hle1 := hle p1 hp1.symm
    simp [F71, hlv, hg, blk_succ, heap_succ, put_succ, hlt, hs, heu, hm, get_set, w1, modify_modify', set_set_same, hle1, srcB, sdN]
  · have he := and255 (gShr .u64 (sdN sd 0) 40)
    have e1 : nxV l p sd = (BitVec.ofInt 64 (gShr .u64 (sdN sd 0) 40) &&& BitVec.ofInt 64 255).toNat := by simp [nxV, hlt]
    have e2 : nxS l p sd = sdN sd 0 := by simp [nxS, hlt]
    rw [e1, e2]
    generalize (BitVec.ofInt 64 (gShr .u64 (sdN sd 0) 40) &&& BitVec.ofInt 64 255).toNat = v at *
    refine call_run rfl fn71 rfl ?_
    simp only [srcB] at hg
    have hm := fun f => hat_modify (e := E) hlv f
    have hle' : ¬ p + 1 ≤ l.length := by omega
    unfold sdN at he
    clear e1 e2
    generalize hp1 : p + 1 = p1 at *
    simp [F71, hlv, hg, blk_succ, heap_succ, put_succ, hlt, hs, hm, get_set, modify_modify', set_set_same, hle', srcB, sdN, he]
/-- pick: a number below n. -/
theorem pick (l : List UInt8) (p n : Nat) (sd : Int) (hp : p ≤ 1000000) (hn : 2 ≤ n ∧ n ≤ 200) (k lv : Nat) (E : List Heap) (S : Nat) (hlv : lv < E.length) (hg : (hat E lv).get S = some (some (srcB l p sd))) :
    call code (k + 2) 52 [.ptr (lv + 1) S 0 [] 0 0, .int .i64 n] E = some ⟨.int .i64 (nxV l p sd % n : Nat), [], E.modify lv fun h => h.set S (some (srcB l (p + 1) (nxS l p sd)))⟩ := by
  refine call_run rfl fn52 rfl ?_
  have hx := fun k l0 => next l p sd hp k (lv + 1) (l0 :: E) S (by simp; omega) (by simpa using hg)
  have d1 : decide ((n : Int) ≤ 1) = false := by simp; omega
  have d2 : decide ((200 : Int) < (n : Int)) = false := by simp; omega
  have n0 : ¬ n = 0 := by omega
  generalize nxV l p sd = x at *
  have e1 : (x : Int).tmod (n : Int) = ((x % n : Nat) : Int) := rfl
  generalize x % n = r at *
  simp [F52, d1, d2, n0, rcall71, hx, e1]
/-- The bytes drawn, the seed after them. -/
def wdN (l : List UInt8) (p : Nat) (sd : Int) : Nat → List UInt8 × Int
  | 0 => ([], sd)
  | i + 1 => ((wdN l p sd i).1 ++ [UInt8.ofNat (nxV l (p + i) (wdN l p sd i).2)], nxS l (p + i) (wdN l p sd i).2)
theorem wdN_len (l : List UInt8) (p : Nat) (sd : Int) : ∀ i, (wdN l p sd i).1.length = i
  | 0 => rfl
  | i + 1 => by simp [wdN, wdN_len l p sd i]
def wd (l : List UInt8) (p n : Nat) (sd : Int) : List UInt8 × Int := wdN l (p + 1) (nxS l p sd) (nxV l p sd % n)
theorem wd_len (l : List UInt8) (p n : Nat) (sd : Int) (hn : 0 < n) : (wd l p n sd).1.length < n := by
  rw [wd, wdN_len]; exact Nat.mod_lt _ hn
set_option maxHeartbeats 4000000 in
theorem word (l : List UInt8) (p n : Nat) (sd : Int) (hp : p ≤ 1000) (hn : 2 ≤ n ∧ n ≤ 200) (k lv : Nat) (E : List Heap) (S : Nat) (hlv : lv < E.length) (hg : (hat E lv).get S = some (some (srcB l p sd))) :
    call code (k + 3) 67 [.ptr (lv + 1) S 0 [] 0 0, .int .i64 n] E = some ⟨.str (B (wd l p n sd).1), [], E.modify lv fun h => h.set S (some (srcB l (p + 1 + nxV l p sd % n) (wd l p n sd).2))⟩ := by
  refine call_run rfl fn67 rfl ?_
  have hx := fun k l0 => pick l p n sd (by omega) hn k (lv + 1) (l0 :: E) S (by simp; omega) (by simpa using hg)
  have hr : nxV l p sd % n < n := Nat.mod_lt _ (by omega)
  unfold wd
  generalize nxV l p sd % n = r at *
  generalize nxS l p sd = sd0 at *
  simp [F67, rcall52, hx]
  refine RunC_loop (fun i : Nat => ⟨tm 23 [(0, .ptr (lv + 1) S 0 [] 0 0), (5, .sl 0 65536 0 [] 0 i), (6, .int .i64 ((r - i : Nat) : Int))], [(65536, some ⟨0, 1, false, true, rws encU (wdN l (p + 1) sd0 i).1⟩)], E.modify lv fun h => h.set S (some (srcB l (p + 1 + i) (wdN l (p + 1) sd0 i).2))⟩)
    (fun i => i ≤ r) (fun i => r - i) 0 (Nat.zero_le _) (by simp; omega) (by simp [tm, wdN]) fun i hi _ => ?_
  have hwl := wdN_len l (p + 1) sd0 i
  by_cases hlt : i < r
  · have hlv' : lv < (E.modify lv fun h => h.set S (some (srcB l (p + 1 + i) (wdN l (p + 1) sd0 i).2))).length := by simpa using hlv
    have hg' : (hat (E.modify lv fun h => h.set S (some (srcB l (p + 1 + i) (wdN l (p + 1) sd0 i).2))) lv).get S = some (some (srcB l (p + 1 + i) (wdN l (p + 1) sd0 i).2)) := by rw [hat_modify hlv, get_set, if_pos rfl]
    have hnx := fun k l0 => next l (p + 1 + i) (wdN l (p + 1) sd0 i).2 (by omega) k (lv + 1) (l0 :: E.modify lv fun h => h.set S (some (srcB l (p + 1 + i) (wdN l (p + 1) sd0 i).2))) S (by simp; omega) (by simpa using hg')
    have hv := nxV_lt l (p + 1 + i) (wdN l (p + 1) sd0 i).2
    have hw8 := wrap8 hv
    have hnext : wdN l (p + 1) sd0 (i + 1) = ((wdN l (p + 1) sd0 i).1 ++ [UInt8.ofNat (nxV l (p + 1 + i) (wdN l (p + 1) sd0 i).2)], nxS l (p + 1 + i) (wdN l (p + 1) sd0 i).2) := rfl
    have hd : decide ((0 : Int) < ((r - i : Nat) : Int)) = true := by simp; omega
    have hsub : IntKind.wrap .i64 (((r - i : Nat) : Int) - 1) = ((r - (i + 1) : Nat) : Int) := by rw [wrap64 ⟨by omega, by omega⟩]; omega
    have happ : ∀ x : UInt8, rws encU (wdN l (p + 1) sd0 i).1 ++ [[.int .u8 (x.toNat : Int)]] = rws encU ((wdN l (p + 1) sd0 i).1 ++ [x]) := fun x => by simp [rws, encU]
    have hrl := rws_len (enc := encU) (wdN l (p + 1) sd0 i).1
    rw [hwl] at hrl
    clear hg hg' hlv' hwl
    generalize hW' : wdN l (p + 1) sd0 (i + 1) = W' at *
    generalize wdN l (p + 1) sd0 i = W at *
    generalize nxV l (p + 1 + i) W.2 = v at *
    generalize nxS l (p + 1 + i) W.2 = s1 at *
    have happ1 := happ (UInt8.ofNat v)
    generalize hR' : rws encU (W.1 ++ [UInt8.ofNat v]) = R' at *
    generalize rws encU W.1 = R at *
    generalize ((UInt8.ofNat v).toNat : Int) = cv at *
    generalize hrr : ((r - (i + 1) : Nat) : Int) = rr at *
    generalize ((r - i : Nat) : Int) = r0 at *
    simp [tm, hd, rcall71, hnx, hw8, source, evalW, hrl, happ1, modify_modify', set_set_same, hsub]
    exact ⟨by omega, i + 1, by omega, by omega, ⟨rfl, hrr.symm⟩, by rw [hW', hnext, hR'], by rw [hW', hnext]; rfl⟩
  · have : i = r := by omega
    subst this
    have hb : bytesOf (rws encU (wdN l (p + 1) sd0 i).1) = some (wdN l (p + 1) sd0 i).1 := bytesOf_rws _
    have hrl := rws_len (enc := encU) (wdN l (p + 1) sd0 i).1
    rw [hwl] at hrl
    have ht : (rws encU (wdN l (p + 1) sd0 i).1).take i = rws encU (wdN l (p + 1) sd0 i).1 := List.take_of_length_le (by omega)
    simp [tm, hb, ht, hrl, B]
theorem a8Word (k : Nat) (l : List UInt8) : call code (k + 4) 48 [.rd true (rws encU l)] [] = some ⟨.str (B (wd l 0 40 0).1), [], []⟩ := by
  refine call_run rfl fn48 rfl ?_
  have h1 := fun k => l00From k l
  have h2 := fun k lv E S hlv hg => word l 0 40 0 (by omega) (by omega) k lv E S hlv hg
  generalize (wd l 0 40 0).1 = w at *
  generalize (wd l 0 40 0).2 = s at *
  have c0 : ((0 : Nat) : Int) = 0 := rfl
  have c40 : ((40 : Nat) : Int) = 40 := rfl
  generalize 0 + 1 + nxV l 0 0 % 40 = q at *
  simp only [srcB, c0, c40] at h1 h2
  simp [F48, rcall51, h1, rcall67, h2]
theorem a8Mix (k : Nat) (l : List UInt8) (hl : l.length ≤ 1048576) : call code (k + 1) 49 [.int .i64 7, .rd true (rws encU l)] [] = some ⟨.sl 0 0 0 [] 0 (l.length + 1), [⟨0, 1, false, true, rws encU (7 :: l)⟩], []⟩ := by
  refine call_run rfl fn49 rfl ?_
  have h7 : rws encU (7 :: l) = [.int .u8 7] :: rws encU l := rfl
  have hrl := rws_len (enc := encU) l
  have hall : ∀ x ∈ rws encU l, x.length = 1 := by
    intro x hx
    simp only [rws, List.mem_map] at hx
    obtain ⟨a, _, rfl⟩ := hx
    rfl
  rw [h7]
  generalize rws encU l = R at *
  simp [F49, evalW, source, hrl]
  exact ⟨hall, by omega, by omega, by decide⟩
/-- The body drawn. -/
def bodyL (l : List UInt8) : List UInt8 := ((wd l 0 40 0).1 ++ (wd (7 :: l) 0 40 0).1).take 64
theorem a8Body (k : Nat) (l : List UInt8) (hl : l.length ≤ 1048576) : call code (k + 5) 24 [.rd true (rws encU l)] [] = some ⟨.str (B (bodyL l)), [], []⟩ := by
  refine call_run rfl fn24 rfl ?_
  have h1 := fun k => a8Word k l
  have h2 := fun k => a8Word k (7 :: l)
  have h3 := fun k => a8Mix k l hl
  have l1 := wd_len l 0 40 0 (by omega)
  have l2 := wd_len (7 :: l) 0 40 0 (by omega)
  have ht : (rws encU (7 :: l)).take (l.length + 1) = rws encU (7 :: l) := List.take_of_length_le (by rw [rws_len]; simp)
  have hrl : (rws encU (7 :: l)).length = l.length + 1 := by rw [rws_len]; simp
  unfold bodyL
  generalize (wd l 0 40 0).1 = w1 at *
  generalize (wd (7 :: l) 0 40 0).1 = w2 at *
  generalize rws encU (7 :: l) = R at *
  have happ := B_app w1 w2
  generalize hw : w1 ++ w2 = w at *
  have hwl : w.length ≤ 100 := by rw [← hw, List.length_append]; omega
  by_cases hc : 64 < w.length
  · have hc' : (64 : Int) < (w.length : Int) := by omega
    have hcut : (B w).extract 0 64 = B (w.take 64) := by rw [B_cut]; simp
    have hle : (64 : Int) ≤ (w.length : Int) := by omega
    simp [F24, rcall48, h1, rcall49, h3, ht, hrl, h2, happ, hc', hc, hle, hcut]
    omega
  · have hc' : ¬ (64 : Int) < (w.length : Int) := by omega
    have hcut : (B w).extract 0 w.length = B (w.take 64) := by rw [B_cut]; simp; rw [List.take_of_length_le (by omega)]
    simp [F24, rcall48, h1, rcall49, h3, ht, hrl, h2, happ, hc', hc, hcut]
    omega
theorem bodyL_len (l : List UInt8) : (bodyL l).length ≤ 64 := by simp [bodyL]; omega
end Go.Ae.M2
