/- The law FnRotDisk. -/
import Derived.Test.YtbnfbihdcpdkkaaR4M4
namespace Go.Ae.R4
set_option linter.unusedSimpArgs false
set_option linter.unusedVariables false
theorem gXorU (a b : UInt8) : gXor .u8 a.toNat b.toNat = ((a ^^^ b).toNat : Int) := by
  have ha := a.toNat_lt
  have hb := b.toNat_lt
  have h : a.toNat ^^^ b.toNat < 2 ^ 8 := Nat.xor_lt_two_pow (by omega) (by omega)
  have e : (BitVec.ofInt 8 (a.toNat : Int) ^^^ BitVec.ofInt 8 (b.toNat : Int)).toNat = a.toNat ^^^ b.toNat := by
    rw [BitVec.toNat_xor, BitVec.ofInt_natCast, BitVec.ofInt_natCast, BitVec.toNat_ofNat, BitVec.toNat_ofNat, Nat.mod_eq_of_lt (by omega), Nat.mod_eq_of_lt (by omega)]
  show IntKind.wrap .u8 ((BitVec.ofInt 8 (a.toNat : Int) ^^^ BitVec.ofInt 8 (b.toNat : Int)).toNat : Int) = _
  rw [e, UInt8.toNat_xor]
  simp only [IntKind.wrap, IntKind.signed, IntKind.bits]
  simp
  omega
theorem xorU {c : UInt8} {b : Int} (hb : 1 ≤ b ∧ b ≤ 255) : UInt8.ofNat (xorN c b) = c ^^^ UInt8.ofNat b.toNat := by
  have hw : IntKind.wrap .u8 b = ((UInt8.ofNat b.toNat).toNat : Int) := by
    have := wrap8 (n := b.toNat) (by omega)
    rw [← this, Int.toNat_of_nonneg (by omega)]
  unfold xorN
  rw [hw, gXorU]
  simp [Nat.mod_eq_of_lt (show b.toNat < 256 by omega)]
theorem ofNat_ne {b : Int} (hb : 1 ≤ b ∧ b ≤ 255) : UInt8.ofNat b.toNat ≠ 0 := by
  intro h
  have := congrArg UInt8.toNat h
  simp at this
  omega
theorem xorAt_size (s : ByteArray) (i : Nat) (b : Int) : (xorAt s i b).size = s.size := by
  show (List.set _ _ _).toArray.size = s.data.size
  simp
theorem xorAt_twice {s : ByteArray} {i : Nat} {b : Int} (hb : 1 ≤ b ∧ b ≤ 255) (hi : i < s.size) : xorAt (xorAt s i b) i b = s := by
  have hi' : i < s.data.toList.length := by simpa using hi
  unfold xorAt
  simp only [xorU hb, List.getD_eq_getElem?_getD, List.getElem?_set, if_pos hi', List.getElem?_eq_getElem hi', if_true, Option.getD_some, List.set_set, UInt8.xor_assoc, UInt8.xor_self, UInt8.xor_zero, List.set_getElem_self]
theorem rotSS_len (ss : List ByteArray) (a p : Nat) (b : Int) : (rotSS ss a p b).length = ss.length := by simp [rotSS]
theorem rotSS_twice {ss : List ByteArray} {a p : Nat} {b : Int} (hb : 1 ≤ b ∧ b ≤ 255) (ha : a < ss.length) (hp : p < (ss.getD a ByteArray.empty).size) : rotSS (rotSS ss a p b) a p b = ss := by
  unfold rotSS
  have e : (ss.set a (xorAt (ss.getD a ByteArray.empty) p b)).getD a ByteArray.empty = xorAt (ss.getD a ByteArray.empty) p b := by
    simp [List.getD_eq_getElem?_getD, ha]
  rw [e, xorAt_twice hb hp, List.set_set]
  simp [List.getD_eq_getElem?_getD, ha]
/-- What is turned. -/
theorem rot_at {ss : List ByteArray} {a p : Nat} {b : Int} (hb : 1 ≤ b ∧ b ≤ 255) (ha : a < ss.length) (hp : p < (ss.getD a ByteArray.empty).size) {i k : Nat} (hi : i < ss.length) (hk : k < ss[i].size) :
    ∃ u v : ByteArray, ss[i] = u ∧ (rotSS ss a p b)[i]'(by rw [rotSS_len]; exact hi) = v ∧ u.size = v.size ∧ ∃ x y : UInt8, u[k]? = some x ∧ v[k]? = some y ∧ ((decide (i = a) && decide (k = p)) == (y == x)) = false := by
  refine ⟨_, _, rfl, rfl, ?_, ?_⟩
  · simp only [rotSS, List.getElem_set]
    split
    · rename_i h; subst h; rw [xorAt_size]; simp [hi]
    · rfl
  · have hk' : k < ss[i].data.toList.length := by simpa using hk
    by_cases hia : i = a
    · subst hia
      have e : (rotSS ss i p b)[i]'(by rw [rotSS_len]; exact hi) = xorAt ss[i] p b := by simp [rotSS, hi]
      rw [e]
      have hp' : p < ss[i].data.toList.length := by simpa [hi] using hp
      by_cases hkp : k = p
      · subst hkp
        refine ⟨ss[i].data.toList[k], ss[i].data.toList[k] ^^^ UInt8.ofNat b.toNat, ?_, ?_, ?_⟩
        · rw [bget, List.getElem?_eq_getElem hk']
        · rw [bget]
          simp only [xorAt, xorU hb, List.getElem?_set, if_pos hk', if_true, List.getD_eq_getElem?_getD, List.getElem?_eq_getElem hk', Option.getD_some]
        · generalize ss[i].data.toList[k] = x
          have : (x ^^^ UInt8.ofNat b.toNat == x) = false := by
            rw [beq_eq_false_iff_ne]
            intro h
            have h2 := congrArg (x ^^^ ·) h
            simp only [← UInt8.xor_assoc, UInt8.xor_self, UInt8.zero_xor] at h2
            exact ofNat_ne hb h2
          rw [this]; simp
      · refine ⟨ss[i].data.toList[k], ss[i].data.toList[k], ?_, ?_, ?_⟩
        · rw [bget, List.getElem?_eq_getElem hk']
        · rw [bget]
          simp only [xorAt]
          rw [List.getElem?_set, if_neg (by omega), List.getElem?_eq_getElem hk']
        · simp [hkp]
    · have e : (rotSS ss a p b)[i]'(by rw [rotSS_len]; exact hi) = ss[i] := by simp only [rotSS, List.getElem_set]; rw [if_neg (by omega)]
      rw [e]
      refine ⟨ss[i].data.toList[k], ss[i].data.toList[k], ?_, ?_, ?_⟩
      · rw [bget, List.getElem?_eq_getElem hk']
      · rw [bget, List.getElem?_eq_getElem hk']
      · simp [hia]
theorem b10Long (k : Nat) (l m : List UInt8) : call code (k + 1) 8 [.rd true (rws encU l), .rd true (rws encU m)] [] = some ⟨.bool (decide ((1048576 : Int) < l.length) || decide ((1048576 : Int) < m.length)), [], []⟩ := by
  refine call_run rfl fn8 rfl ?_
  have l1 := rws_len (enc := encU) l
  have l2 := rws_len (enc := encU) m
  generalize rws encU l = L at *
  generalize rws encU m = M at *
  cases h1 : decide ((1048576 : Int) < l.length) <;> cases h2 : decide ((1048576 : Int) < m.length) <;> simp [F8, l1, l2, h1, h2]
theorem b10Texts (k : Nat) (l : List ByteArray) (hn : l.length ≤ 1000000) : call code (k + 1) 11 [.rd true (rowsT l), .rd true (rowsT l)] [] = some ⟨.bool true, [], []⟩ := by
  refine call_run rfl fn11 rfl ?_
  have l1 := rowsT_len l
  simp [F11, l1]
  refine RunC_loop (fun i : Nat => ⟨tm 26 [(0, .rd true (rowsT l)), (1, .rd true (rowsT l)), (5, .int .i64 i)], [], []⟩)
    (fun i => i ≤ l.length) (fun i => l.length - i) 0 (Nat.zero_le _) (by simp; omega) (by simp [tm]) fun i hi _ => ?_
  by_cases hlt : i < l.length
  · have hs := idx_succ' hlt (by omega)
    have hg : ∀ h, (rowsT l)[i]'h = [.str l[i]] := fun h => rowsT_at hlt h
    simp [tm, hlt, hs, l1, hg]
    exact ⟨i + 1, by omega, by omega, by simp⟩
  · have : i = l.length := by omega
    subst this
    simp [tm, l1]
def dH (s : Nat) (ra rb : Nat) (n m : Nat) : Heap := [(s, some ⟨0, 2, true, false, [[.sl 0 ra 0 [] 0 n, .sl 0 rb 0 [] 0 m]]⟩), (s + 1, some ⟨0, 1, false, true, []⟩), (s + 2, some ⟨0, 2, false, true, []⟩)]
/-- The heap of the law. -/
def lH (R X Q : List (List AV)) (n m : Nat) : Heap := [(196864, some ⟨0, 1, false, true, R⟩), (196865, some ⟨0, 2, false, true, Q⟩)] ++ dH 198400 196864 196865 n m ++ [(263168, some ⟨0, 1, false, true, X⟩), (263169, some ⟨0, 2, false, true, Q⟩)] ++ dH 264192 263168 263169 n m ++ [(459776, some ⟨0, 1, false, true, R⟩), (459777, some ⟨0, 2, false, true, Q⟩)] ++ dH 460800 459776 459777 n m
set_option maxRecDepth 100000 in
set_option maxHeartbeats 16000000 in
theorem law3 (n : Nat) (l m : List UInt8) : call code (n + 12) 3 [.rd true (rws encU l), .rd true (rws encU m)] [] = some ⟨.bool true, [], []⟩ := by
  refine call_run rfl fn3 rfl ?_
  have h1 := fun k => b10Long k l m
  cases c1 : decide ((1048576 : Int) < l.length) || decide ((1048576 : Int) < m.length)
  rotate_left
  · rw [c1] at h1
    simp [F3, rcall8, h1]
  rw [c1] at h1
  obtain ⟨ss, ps, a, p, b, k1, k2, h2⟩ := drawRot l
  have l1 := rowsT_len ss
  have l2 := rowsP_len ps
  have tk1 : (rowsT ss).take ss.length = rowsT ss := List.take_of_length_le (by omega)
  have tk2 : (rowsP ps).take ps.length = rowsP ps := List.take_of_length_le (by omega)
  cases c2 : rotB ss ps a p b
  · obtain ⟨e, he, h3⟩ := rotBad ss ps a p b (by omega) (by omega) c2
    simp only [resD] at h3
    simp [F3, rcall8, h1, rcall9, h2, storeM, rcall10, tk1, tk2, l1, l2, h3, he]
  have h3 := fun k => rotGood ss ps a p b (by omega) (by omega) c2 k
  have c3 := c2
  simp only [rotB, Bool.and_eq_true] at c2
  obtain ⟨d1, d3, d4, d5⟩ := c2
  simp [inB] at d3 d4 d5
  have ha : a < ss.length := by omega
  have hall : ss.all secB = true := by have := d1; simp [diskB] at this; exact List.all_eq_true.2 this.1.2
  have hsz : secB ss[a] = true := List.all_eq_true.1 hall _ (List.getElem_mem ha)
  have hp : p < (ss.getD a ByteArray.empty).size := by
    simp [secB] at hsz
    simp [List.getD_eq_getElem?_getD, ha]; omega
  have hb : (1 : Int) ≤ (b : Int) ∧ (b : Int) ≤ 255 := by omega
  have tw := rotSS_twice hb ha hp
  have at_ : ∀ i : Nat, i < ss.length → ∃ u v : ByteArray, ss[i]? = some u ∧ (rotSS ss a p b)[i]? = some v ∧ u.size = v.size ∧ u.size = 64 ∧ ∀ k, k < u.size → ∃ x y : UInt8, u[k]? = some x ∧ v[k]? = some y ∧ ((decide (i = a) && decide (k = p)) == (y == x)) = false := fun i hi => by
    have hi2 : i < (rotSS ss a p b).length := by rw [rotSS_len]; exact hi
    refine ⟨ss[i], (rotSS ss a p b)[i], List.getElem?_eq_getElem hi, List.getElem?_eq_getElem hi2, ?_, ?_, fun k hk => ?_⟩
    · simp only [rotSS, List.getElem_set]
      split
      · rename_i h; subst h; rw [xorAt_size]; simp [hi]
      · rfl
    · have h64 : secB ss[i] = true := List.all_eq_true.1 hall _ (List.getElem_mem hi)
      simp [secB] at h64; omega
    · obtain ⟨u, v, e1, e2, e3, x, y, e4, e5, e6⟩ := rot_at hb ha hp hi hk
      subst e1; subst e2
      exact ⟨x, y, e4, e5, e6⟩
  have xl := rotSS_len ss a p b
  simp only [Int.toNat_natCast] at h3
  have c4 : rotB (rotSS ss a p b) ps a p b = true := by
    have hall2 : (rotSS ss a p b).all secB = true := by
      rw [List.all_eq_true]
      intro x hx
      obtain ⟨i, hi, rfl⟩ := List.getElem_of_mem hx
      rw [xl] at hi
      have h64 : secB ss[i] = true := List.all_eq_true.1 hall _ (List.getElem_mem hi)
      simp only [rotSS, List.getElem_set]
      split
      · simp only [secB, xorAt_size] at hsz ⊢
        simpa [List.getD_eq_getElem?_getD, ha] using hsz
      · exact h64
    have hd : diskB (rotSS ss a p b) ps = true := by
      unfold diskB at d1 ⊢
      rw [xl]
      simp only [Bool.and_eq_true] at d1 ⊢
      exact ⟨⟨d1.1.1, hall2⟩, d1.2⟩
    simp only [rotB, Bool.and_eq_true, xl]
    exact ⟨hd, by simp [inB]; omega, by simp [inB]; omega, by simp [inB]; omega⟩
  have h4 := fun k => rotGood (rotSS ss a p b) ps a p b (by omega) (by omega) c4 k
  simp only [Int.toNat_natCast, tw] at h4
  have bt := fun k => b10Texts k ss (by omega)
  have x1 := rowsT_len (rotSS ss a p b)
  rw [xl] at x1
  have tk3 : (rowsT (rotSS ss a p b)).take ss.length = rowsT (rotSS ss a p b) := List.take_of_length_le (by omega)
  have hg1 : ∀ (i : Nat) (v : ByteArray), ss[i]? = some v → ∀ (h : i < (rowsT ss).length), (rowsT ss)[i]'h = [.str v] := fun i v hv h => by
    obtain ⟨q1, q2⟩ := List.getElem?_eq_some_iff.1 hv
    rw [rowsT_at q1, q2]
  simp only [resD, xl] at h3 h4
  clear c3 c4 tw hall hsz d1
  generalize rotSS ss a p b = xs at *
  simp [F3, rcall8, h1, rcall9, h2, storeM, rcall10, tk1, tk2, tk3, l1, l2, x1, xl, h3, h4, rcall11, bt]
  clear h1 h2 h3 h4 bt
  have hg2 : ∀ (i : Nat) (v : ByteArray), xs[i]? = some v → ∀ (h : i < (rowsT xs).length), (rowsT xs)[i]'h = [.str v] := fun i v hv h => by
    obtain ⟨q1, q2⟩ := List.getElem?_eq_some_iff.1 hv
    rw [rowsT_at q1, q2]
  generalize rowsT xs = X at *
  generalize rowsP ps = Q at *
  generalize ps.length = pl at *
  have hss : ss.length ≤ 5 := k1
  generalize hN : ss.length = N at *
  generalize hR : rowsT ss = R at *
  refine RunC_loop (fun i : Nat => ⟨tm 120 [(5, .ptr 0 198400 0 [] 0 0), (6, .int .i64 a), (7, .int .i64 p), (9, .ptr 0 264192 0 [] 0 0), (13, .int .i64 i)], lH R X Q N pl, []⟩)
    (fun i => i ≤ N) (fun i => N - i) 0 (Nat.zero_le _) (by simp; omega) (by simp [tm, lH, dH]) fun i hi _ => ?_
  by_cases hlt : i < N
  · have hs := idx_succ' hlt (by omega)
    obtain ⟨u, v, e1, e2, e3, e4, hk⟩ := at_ i hlt
    have hr1 := hg1 i u e1
    have hr2 := hg2 i v e2
    simp [tm, lH, dH, hlt, l1]
    refine RunC_loop (fun k : Nat => ⟨tm 120 [(5, .ptr 0 198400 0 [] 0 0), (6, .int .i64 a), (7, .int .i64 p), (9, .ptr 0 264192 0 [] 0 0), (13, .int .i64 i), (14, .int .i64 k)], lH R X Q N pl, []⟩)
      (fun k => k ≤ u.size) (fun k => u.size - k) 0 (Nat.zero_le _) (by simp; omega) (by simp [tm, lH, dH]) fun k hkl _ => ?_
    by_cases hkt : k < u.size
    · have hs2 := idx_succ' hkt (by omega)
      obtain ⟨x, y, f1, f2, f3⟩ := hk k hkt
      have g1 : ∀ h, u[k]'h = x := fun h => by have := f1; rw [getElem?_pos u k h] at this; exact Option.some.inj this
      have g2 : ∀ h, v[k]'h = y := fun h => by have := f2; rw [getElem?_pos v k h] at this; exact Option.some.inj this
      clear f1 f2
      have ei : ((i : Int) == (a : Int)) = decide (i = a) := by rw [Bool.eq_iff_iff]; simp; omega
      have ek : ((k : Int) == (p : Int)) = decide (k = p) := by rw [Bool.eq_iff_iff]; simp; omega
      have exy : ((y.toNat : Int) == (x.toNat : Int)) = (y == x) := by rw [Bool.eq_iff_iff]; simp only [beq_iff_eq, Int.natCast_inj, UInt8.toNat_inj]
      rw [e4] at e3 hkt
      have e5 : v.size = 64 := by omega
      have hk64 : (k : Int) < 64 := by omega
      have hp64 : (p : Int) < 64 := by omega
      clear at_ hg1 hg2
      cases w1 : decide (i = a) <;> cases w2 : decide (k = p) <;> cases w3 : (y == x) <;> rw [w1, w2, w3] at f3 <;> first | (simp at f3; done) | skip
      all_goals rw [w1] at ei; rw [w2] at ek; rw [w3] at exy
      all_goals simp [tm, lH, dH, hlt, l1, hr1, hr2, e4, e5, hkt, hk64, hp64, x1, g1, g2, exy, hs2, ei, ek]
      all_goals exact ⟨k + 1, by omega, by omega, by simp⟩
    · have : k = u.size := by omega
      subst this
      simp [tm, lH, dH, hlt, l1, hr1, hs]
      exact ⟨i + 1, by omega, by omega, by simp⟩
  · have : i = N := by omega
    subst this
    simp [tm, lH, dH, l1]
theorem fitU : ∀ {xs : List (List AV)}, (∀ r ∈ xs, FitsAll [.int .u8] r) → ∃ l : List UInt8, xs = rws encU l
  | [], _ => ⟨[], rfl⟩
  | r :: xs, h => by
    have h0 := h r List.mem_cons_self
    obtain ⟨_, _, rfl, h1, h0⟩ := h0.cons_inv
    obtain rfl := h0.nil_inv
    obtain ⟨v0, rfl, w0⟩ := h1.int_inv
    simp [Lit.wf, IntKind.min, IntKind.max, IntKind.signed, IntKind.bits] at w0
    obtain ⟨ws, rfl⟩ := fitU fun x hx => h x (List.mem_cons_of_mem _ hx)
    refine ⟨UInt8.ofNat v0.toNat :: ws, ?_⟩
    have hv : ((UInt8.ofNat v0.toNat).toNat : Int) = v0 := by
      rw [UInt8.toNat_ofNat_of_lt' (by show v0.toNat < 256; omega)]; omega
    rw [rws_cons, encU, hv]
theorem lawRotDisk (avs : List AV) (h : PFitsAll [(false, [.sl 1 [.int .u8]]), (false, [.sl 1 [.int .u8]])] avs) : ∃ n bs e, call code n 3 avs [] = some ⟨.bool true, bs, e⟩ := by
  obtain ⟨v0, r, rfl, h0, h⟩ := h.cons_inv
  obtain ⟨v1, r, rfl, h1, h⟩ := h.cons_inv
  obtain rfl := h.nil_inv
  obtain ⟨ys, rfl, _, kr⟩ := h0.one_inv.sl_inv
  obtain ⟨l, rfl⟩ := fitU kr
  obtain ⟨zs, rfl, _, kz⟩ := h1.one_inv.sl_inv
  obtain ⟨m, rfl⟩ := fitU kz
  exact ⟨_, _, _, law3 0 l m⟩
end Go.Ae.R4
