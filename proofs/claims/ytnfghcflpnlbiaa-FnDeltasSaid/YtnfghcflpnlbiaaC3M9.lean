/- Any rows of the code's matrix have an inverse: a certificate for each choice, looked at by the kernel. -/
import Derived.Test.YtnfghcflpnlbiaaC3M8
import Derived.Test.YtnfghcflpnlbiaaC3M2
namespace Go.Ae.C3
set_option linter.unusedSimpArgs false
set_option linter.unusedVariables false
def G (k p j : Nat) : Nat := if p < k then (if p = j then 1 else 0) else entry k (p - k) j
def subs : Nat → List (List Nat)
  | 0 => [[]]
  | n + 1 => subs n ++ (subs n).map fun s => s ++ [n]
theorem subs_mono {n : Nat} : ∀ m, n ≤ m → ∀ s ∈ subs n, s ∈ subs m
  | 0, h, s, hs => by rw [show n = 0 by omega] at hs; exact hs
  | m + 1, h, s, hs => by
    rcases Nat.eq_or_lt_of_le h with rfl | h2
    · exact hs
    · exact List.mem_append.2 (.inl (subs_mono m (by omega) s hs))
theorem plc_subs (l : List UInt8) (m n : Nat) : ∀ i, plc l m n i ∈ subs i
  | 0 => by simp [plc, subs]
  | i + 1 => by
    have := plc_subs l m n i
    unfold plc subs
    split
    · exact List.mem_append.2 (.inr (List.mem_map.2 ⟨_, this, rfl⟩))
    · exact List.mem_append.2 (.inl this)
theorem subs_lt {s : List Nat} : ∀ n, s ∈ subs n → ∀ p ∈ s, p < n
  | 0, h, p, hp => by simp [subs] at h; subst h; simp at hp
  | n + 1, h, p, hp => by
    unfold subs at h
    rcases List.mem_append.1 h with h | h
    · have := subs_lt n h p hp; omega
    · obtain ⟨t, ht, rfl⟩ := List.mem_map.1 h
      rcases List.mem_append.1 hp with hp | hp
      · have := subs_lt n ht p hp; omega
      · simp at hp; omega
/-- A row less a multiple of another one. -/
def less (i : Nat) (pv r : List Nat) : List Nat := if r.getD i 0 = 0 then r else List.zipWith (fun a b => a ^^^ gm (r.getD i 0) b) r pv
def pickR (i : Nat) : List (List Nat) → Option (List Nat × List (List Nat))
  | [] => none
  | r :: t => if r.getD i 0 = 0 then (match pickR i t with | some (p, u) => some (p, r :: u) | none => none) else some (r, t)
def gauss : Nat → Nat → List (List Nat) → List (List Nat) → List (List Nat)
  | 0, _, dn, _ => dn
  | n + 1, i, dn, rest => match pickR i rest with
    | none => dn
    | some (p, u) => gauss n (i + 1) (dn.map (less i (p.map (gm (inv (p.getD i 0))))) ++ [p.map (gm (inv (p.getD i 0)))]) (u.map (less i (p.map (gm (inv (p.getD i 0))))))
def certR (k : Nat) (ps : List Nat) : List (List Nat) :=
  (gauss k 0 [] ((List.range k).map fun i => ((List.range k).map fun j => G k (ps.getD i 0) j) ++ ((List.range k).map fun j => if i = j then 1 else 0))).map (List.drop k)
def lsum (nr : List Nat) (k : Nat) (ps : List Nat) (j : Nat) : Nat → Nat
  | 0 => 0
  | i + 1 => lsum nr k ps j i ^^^ gm (nr.getD i 0) (G k (ps.getD i 0) j)
def chk (k : Nat) (ps : List Nat) (N : List (List Nat)) : Bool :=
  (List.range k).all fun a => ((N.getD a []).all fun x => decide (x < 256)) && (List.range k).all fun j => lsum (N.getD a []) k ps j k == (if a = j then 1 else 0)
theorem all_chk : ((List.range 7).all fun k => (subs 8).all fun ps => ps.length != k || chk k ps (certR k ps)) = true := by decide +kernel
end Go.Ae.C3
namespace Go.Ae.C3
set_option linter.unusedSimpArgs false
set_option linter.unusedVariables false
theorem gN_G : ∀ k, k < 9 → ∀ m, m < 9 → k + m ≤ 8 → gN k m = (List.range ((k + m) * k)).map fun x => G k (x / k) (x % k) := by decide +kernel
end Go.Ae.C3
namespace Go.Ae.C3
set_option linter.unusedSimpArgs false
set_option linter.unusedVariables false
theorem G_lt {k p j : Nat} (h : k + p < 256) : G k p j < 256 := by
  unfold G
  split
  · split <;> decide
  · exact gm_lt (by omega)
theorem dot_zero_left {x : Nat → Nat} : ∀ n, dot (fun _ => 0) x n = 0
  | 0 => rfl
  | n + 1 => by rw [dot, dot_zero_left n, gm_0]; rfl
theorem cert {k : Nat} {ps : List Nat} (hk : k < 7) (hs : ps ∈ subs 8) (hl : ps.length = k) {x : Nat → Nat} (hx : ∀ j, x j < 256) (hz : ∀ i, i < k → dot (G k (ps.getD i 0)) x k = 0) : ∀ a, a < k → x a = 0 := by
  intro a ha
  have h := all_chk
  rw [List.all_eq_true] at h
  have h := h k (List.mem_range.2 hk)
  rw [List.all_eq_true] at h
  have h := h ps hs
  simp only [hl, bne_self_eq_false, Bool.false_or] at h
  unfold chk at h
  rw [List.all_eq_true] at h
  have h := h a (List.mem_range.2 ha)
  generalize (certR k ps).getD a [] = nr at h
  rw [Bool.and_eq_true, List.all_eq_true, List.all_eq_true] at h
  obtain ⟨h1, h2⟩ := h
  have hn : ∀ i, nr.getD i 0 < 256 := fun i => getD_lt (fun y hy => by simpa using h1 y hy) i
  have hp : ∀ i, ps.getD i 0 < 8 := fun i => by
    by_cases hi : i < ps.length
    · rw [List.getD_eq_getElem?_getD, List.getElem?_eq_getElem hi]; exact subs_lt 8 hs _ (List.getElem_mem hi)
    · rw [List.getD_eq_getElem?_getD, List.getElem?_eq_none (by omega)]; decide
  have hG : ∀ i j, G k (ps.getD i 0) j < 256 := fun i j => G_lt (by have := hp i; omega)
  have key : ∀ i, i ≤ k → (∀ j, lsum nr k ps j i < 256) ∧ dot (fun j => lsum nr k ps j i) x k = 0 := by
    intro i
    induction i with
    | zero => exact fun _ => ⟨fun j => by simp [lsum], by simp only [lsum]; exact dot_zero_left k⟩
    | succ i ih =>
      intro hi
      obtain ⟨i1, i2⟩ := ih (by omega)
      refine ⟨fun j => xlt (i1 j) (gm_lt (hn i)), ?_⟩
      simp only [lsum]
      rw [dot_add (hn i) k (fun j _ => i1 j) (fun j _ => hG i j), i2, hz i (by omega), gm_0']; rfl
  have hd := (key k (Nat.le_refl _)).2
  rw [dot_congr (r' := idM a) (x' := x) k (fun j hj => by have := h2 j (List.mem_range.2 hj); simpa [idM] using this) (fun _ _ => rfl), dot_unit (i := a) k (fun _ _ => rfl) (fun j _ => hx j), if_pos ha] at hd
  exact hd
theorem runS_rows {k : Nat} {ps : List Nat} (hk : k < 7) (hs : ps ∈ subs 8) (hl : ps.length = k) {Y : Mx} (hY : ∀ i j, i < k → j < k → Y i j = G k (ps.getD i 0) j) (hb : bnd k Y) : ∃ p, runS k (Y, idM) k = some p ∧ Inv k k (Y, idM) p := by
  have g := (good_all (p0 := (Y, idM)) hb (idM_bnd k)).2
  cases h : runS k (Y, idM) k with
  | some p => rw [h] at g; exact ⟨p, rfl, g⟩
  | none =>
    rw [h] at g
    obtain ⟨x, m, hm, hx, hne, hsol⟩ := g
    refine absurd (cert hk hs hl hx (fun i hi => ?_) m hm) hne
    have := hsol i hi
    simp only [dot_zero] at this
    exact (dot_congr k (fun j hj => hY i j hi hj) (fun _ _ => rfl)).symm.trans this
/-- The product of a matrix and its inverse. -/
theorem prod_unit {w : Nat} {Y : Mx} {p : Mx × Mx} (h : Inv w w (Y, idM) p) {i j : Nat} (hi : i < w) (hj : j < w) : dot (Y i) (fun q => p.2 q j) w = idM i j := by
  have u : ∀ (M : Mx), bnd w M → ∀ i, i < w → dot (M i) (idM j) w = M i j := by
    intro M hM i hi
    have : ∀ n, n ≤ w → dot (M i) (idM j) n = dot (idM j) (M i) n := by
      intro n
      induction n with
      | zero => intro _; rfl
      | succ n ih =>
        intro hn
        rw [dot, dot, ih (by omega), gm_comm _ (hM i n hi (by omega)) _ (idM_bnd w j n hj (by omega))]
    rw [this w (Nat.le_refl _), dot_unit (i := j) w (fun _ _ => rfl) (fun a ha => hM i a hi ha), if_pos hj]
  have s1 : Sol w (Y, idM) (fun a => p.2 a j) (idM j) := by
    rw [sol_full h (fun a ha => h.b2 a j ha hj)]
    intro a ha
    exact (u p.2 h.b2 a ha).symm
  have := s1 i hi
  simp only at this
  rw [this, u idM (idM_bnd w) i hi]
theorem flat_range {α : Type} (w : Nat) (f : Nat → Nat → α) : ∀ n, ((List.range n).flatMap fun a => (List.range w).map fun b => f a b) = (List.range (n * w)).map fun x => f (x / w) (x % w)
  | 0 => by simp
  | n + 1 => by
    rw [List.range_succ, List.flatMap_append, flat_range w f n, Nat.add_mul, Nat.one_mul, List.range_add, List.map_append]
    congr 1
    simp only [List.flatMap_cons, List.flatMap_nil, List.append_nil, List.map_map]
    apply List.map_congr_left
    intro b hb
    have hb' := List.mem_range.1 hb
    obtain ⟨h1, h2⟩ := dm (w := w) (i := n) hb'
    simp only [Function.comp, h1, h2]
theorem unfl_fl {w : Nat} {M : Mx} {i j : Nat} (hi : i < w) (hj : j < w) : unfl w (fl w M) i j = M i j := fl_get hi hj
theorem rwsAt_get {an : List Nat} {h w : Nat} : ∀ {ps : List Nat} {i j : Nat}, an.length = h * w → (∀ p ∈ ps, p < h) → i < ps.length → j < w → (rwsAt an w ps).getD (i * w + j) 0 = an.getD (ps.getD i 0 * w + j) 0
  | [], i, j, _, _, hi, _ => by simp at hi
  | p :: r, i, j, la, hp, hi, hj => by
    have h2 : (p + 1) * w ≤ h * w := Nat.mul_le_mul_right _ (hp p (List.mem_cons_self ..))
    have h3 : (prt an (p * w) ((p + 1) * w)).length = w := by rw [prt_len (by rw [la]; exact h2), Nat.add_mul]; omega
    have hc : rwsAt an w (p :: r) = prt an (p * w) ((p + 1) * w) ++ rwsAt an w r := by simp [rwsAt]
    rw [hc]
    cases i with
    | zero =>
      simp only [Nat.zero_mul, Nat.zero_add, List.getD_cons_zero]
      rw [List.getD_eq_getElem?_getD, List.getElem?_append_left (by omega), ← List.getD_eq_getElem?_getD, prt_get (by rw [Nat.add_mul]; omega)]
    | succ i =>
      have ih := rwsAt_get (i := i) (j := j) la (fun q hq => hp q (List.mem_cons_of_mem _ hq)) (by simpa using hi) hj
      rw [List.getD_cons_succ, ← ih]
      rw [List.getD_eq_getElem?_getD, List.getElem?_append_right (by rw [h3, Nat.add_mul]; omega), h3, ← List.getD_eq_getElem?_getD]
      congr 1
      rw [Nat.add_mul]; omega
theorem gN_get {k m p j : Nat} (hk : k + m ≤ 8) (hp : p < k + m) (hj : j < k) : (gN k m).getD (p * k + j) 0 = G k p j := by
  rw [gN_G k (by omega) m (by omega) hk]
  obtain ⟨h1, h2⟩ := dm (w := k) (i := p) hj
  have hlt : p * k + j < (k + m) * k := by
    have : (p + 1) * k ≤ (k + m) * k := Nat.mul_le_mul_right _ hp
    rw [Nat.add_mul] at this; omega
  rw [List.getD_eq_getElem?_getD, List.getElem?_eq_getElem (by simpa using hlt)]
  simp [h1, h2]
theorem rows_G {k m : Nat} {ps : List Nat} (hk : k + m ≤ 8) (hp : ∀ p ∈ ps, p < k + m) (hl : ps.length = k) {i j : Nat} (hi : i < k) (hj : j < k) : unfl k (rwsAt (gN k m) k ps) i j = G k (ps.getD i 0) j := by
  unfold unfl
  rw [rwsAt_get gN_len hp (by omega) hj]
  refine gN_get hk ?_ hj
  rw [List.getD_eq_getElem?_getD, List.getElem?_eq_getElem (by omega)]
  exact hp _ (List.getElem_mem _)
theorem head_unit {k m : Nat} (hk : k + m ≤ 8) : rwsAt (gN k m) k (List.range k) = fl k idM := by
  have hp : ∀ p ∈ List.range k, p < k + m := fun p hp => by have := List.mem_range.1 hp; omega
  have hl : (rwsAt (gN k m) k (List.range k)).length = k * k := by rw [rwsAt_len gN_len hp, List.length_range]
  rw [← fl_unfl hl]
  apply fl_congr
  intro i j hi hj
  rw [rows_G hk hp (by simp) hi hj]
  have : (List.range k).getD i 0 = i := by rw [List.getD_eq_getElem?_getD, List.getElem?_eq_getElem (by simpa using hi)]; simp
  rw [this]
  simp [G, hi, idM]
end Go.Ae.C3
namespace Go.Ae.C3
set_option linter.unusedSimpArgs false
set_option linter.unusedVariables false
/-- The source of a draw: its bytes, its place, its seed. -/
def srcB (l : List UInt8) (at_ : Nat) (sd : Int) : Blk := ⟨0, 3, true, false, [[.rd true (rws encU l), .int .i64 at_, .int .u64 sd]]⟩
theorem l00From (k : Nat) (l : List UInt8) : call code (k + 1) 82 [.rd true (rws encU l)] [] = some ⟨.ptr 0 0 0 [] 0 0, [srcB l 0 0], []⟩ := by
  refine call_run rfl fn82 rfl ?_
  simp [F82, srcB]
def sdN (sd b : Int) : Int := IntKind.wrap .u64 (IntKind.wrap .u64 (IntKind.wrap .u64 (sd * 6364136223846793005) + IntKind.wrap .u64 b) + 1442695040888963407)
def bt (l : List UInt8) (p : Nat) : Nat := if p < l.length then (l.getD p 0).toNat else 0
theorem wu : ∀ v : Nat, v < 256 → IntKind.wrap .u64 (v : Int) = v ∧ IntKind.wrap .i64 (v : Int) = v := by decide +kernel
/-- The number drawn, the seed after it. -/
def nxV (l : List UInt8) (p : Nat) (sd : Int) : Nat := if h : p < l.length then l[p].toNat else (BitVec.ofInt 64 (gShr .u64 (sdN sd 0) 40) &&& BitVec.ofInt 64 255).toNat
def nxS (l : List UInt8) (p : Nat) (sd : Int) : Int := if h : p < l.length then sdN sd (l[p].toNat) else sdN sd 0
theorem and_lt (a : Int) : (BitVec.ofInt 64 a &&& BitVec.ofInt 64 255).toNat < 256 := by
  rw [BitVec.toNat_and]
  exact Nat.lt_of_le_of_lt Nat.and_le_right (by decide)
theorem and255 (a : Int) : IntKind.wrap .i64 (gAnd .u64 a 255) = ((BitVec.ofInt 64 a &&& BitVec.ofInt 64 255).toNat : Nat) := by
  have hlt := and_lt a
  show IntKind.wrap .i64 (IntKind.wrap .u64 ((BitVec.ofInt 64 a &&& BitVec.ofInt 64 255).toNat : Int)) = _
  rw [(wu _ hlt).1, (wu _ hlt).2]
theorem nxV_lt (l : List UInt8) (p : Nat) (sd : Int) : nxV l p sd < 256 := by
  unfold nxV
  split
  · exact UInt8.toNat_lt _
  · exact and_lt _
theorem next (l : List UInt8) (p : Nat) (sd : Int) (hp : p ≤ 1000000) (k lv : Nat) (E : List Heap) (S : Nat) (hlv : lv < E.length) (hg : (hat E lv).get S = some (some (srcB l p sd))) :
    call code (k + 1) 148 [.ptr (lv + 1) S 0 [] 0 0] E = some ⟨.int .i64 (nxV l p sd : Nat), [], E.modify lv fun h => h.set S (some (srcB l (p + 1) (nxS l p sd)))⟩ := by
  have hs : IntKind.wrap .i64 ((p : Int) + 1) = ((p + 1 : Nat) : Int) := by rw [wrap64 ⟨by omega, by omega⟩]; omega
  by_cases hlt : p < l.length
  · have hb : l[p].toNat < 256 := UInt8.toNat_lt _
    have w1 : IntKind.wrap .i64 ((l[p].toNat : Nat) : Int) = ((l[p].toNat : Nat) : Int) := wrap64 ⟨by omega, by omega⟩
    have e1 : nxV l p sd = l[p].toNat := by simp [nxV, hlt]
    have e2 : nxS l p sd = sdN sd l[p].toNat := by simp [nxS, hlt]
    rw [e1, e2]
    refine call_run rfl fn148 rfl ?_
    simp only [srcB] at hg
    have hm := fun f => hat_modify (e := E) hlv f
    have heu : encU l[p] = [.int .u8 ((l[p].toNat : Nat) : Int)] := rfl
    clear e1 e2
    generalize l[p].toNat = b at *
    have hle : ∀ q, q = p + 1 → q ≤ l.length := fun q h => by omega
    generalize hp1 : p + 1 = p1 at hs ⊢
    have hle1 := hle p1 hp1.symm
    simp [F148, hlv, hg, blk_succ, heap_succ, put_succ, hlt, hs, heu, hm, get_set, w1, modify_modify', set_set_same, hle1, srcB, sdN]
  · have he := and255 (gShr .u64 (sdN sd 0) 40)
    have e1 : nxV l p sd = (BitVec.ofInt 64 (gShr .u64 (sdN sd 0) 40) &&& BitVec.ofInt 64 255).toNat := by simp [nxV, hlt]
    have e2 : nxS l p sd = sdN sd 0 := by simp [nxS, hlt]
    rw [e1, e2]
    generalize (BitVec.ofInt 64 (gShr .u64 (sdN sd 0) 40) &&& BitVec.ofInt 64 255).toNat = v at *
    refine call_run rfl fn148 rfl ?_
    simp only [srcB] at hg
    have hm := fun f => hat_modify (e := E) hlv f
    have hle' : ¬ p + 1 ≤ l.length := by omega
    unfold sdN at he
    clear e1 e2
    generalize hp1 : p + 1 = p1 at *
    simp [F148, hlv, hg, blk_succ, heap_succ, put_succ, hlt, hs, hm, get_set, modify_modify', set_set_same, hle', srcB, sdN, he]
/-- pick: a number below n. -/
theorem pick (l : List UInt8) (p n : Nat) (sd : Int) (hp : p ≤ 1000000) (hn : 2 ≤ n ∧ n ≤ 200) (k lv : Nat) (E : List Heap) (S : Nat) (hlv : lv < E.length) (hg : (hat E lv).get S = some (some (srcB l p sd))) :
    call code (k + 2) 134 [.ptr (lv + 1) S 0 [] 0 0, .int .i64 n] E = some ⟨.int .i64 (nxV l p sd % n : Nat), [], E.modify lv fun h => h.set S (some (srcB l (p + 1) (nxS l p sd)))⟩ := by
  refine call_run rfl fn134 rfl ?_
  have hx := fun k l0 => next l p sd hp k (lv + 1) (l0 :: E) S (by simp; omega) (by simpa using hg)
  have d1 : decide ((n : Int) ≤ 1) = false := by simp; omega
  have d2 : decide ((200 : Int) < (n : Int)) = false := by simp; omega
  have n0 : ¬ n = 0 := by omega
  generalize nxV l p sd = x at *
  have e1 : (x : Int).tmod (n : Int) = ((x % n : Nat) : Int) := rfl
  generalize x % n = r at *
  simp [F134, d1, d2, n0, rcall148, hx, e1]
/-- The bytes drawn, the seed after them. -/
def wdN (l : List UInt8) (p : Nat) (sd : Int) : Nat → List UInt8 × Int
  | 0 => ([], sd)
  | i + 1 => ((wdN l p sd i).1 ++ [UInt8.ofNat (nxV l (p + i) (wdN l p sd i).2)], nxS l (p + i) (wdN l p sd i).2)
theorem wdN_len (l : List UInt8) (p : Nat) (sd : Int) : ∀ i, (wdN l p sd i).1.length = i
  | 0 => rfl
  | i + 1 => by simp [wdN, wdN_len l p sd i]
def wd (l : List UInt8) (p n : Nat) (sd : Int) : List UInt8 × Int := wdN l (p + 1) (nxS l p sd) (nxV l p sd % n)
theorem wd_len (l : List UInt8) (p n : Nat) (sd : Int) (hn : 0 < n) : (wd l p n sd).1.length < n := by
  rw [wd, wdN_len]; exact Nat.mod_lt _ hn
set_option maxHeartbeats 4000000 in
theorem word (l : List UInt8) (p n : Nat) (sd : Int) (hp : p ≤ 1000) (hn : 2 ≤ n ∧ n ≤ 200) (k lv : Nat) (E : List Heap) (S : Nat) (hlv : lv < E.length) (hg : (hat E lv).get S = some (some (srcB l p sd))) :
    call code (k + 3) 122 [.ptr (lv + 1) S 0 [] 0 0, .int .i64 n] E = some ⟨.str (B (wd l p n sd).1), [], E.modify lv fun h => h.set S (some (srcB l (p + 1 + nxV l p sd % n) (wd l p n sd).2))⟩ := by
  refine call_run rfl fn122 rfl ?_
  have hx := fun k l0 => pick l p n sd (by omega) hn k (lv + 1) (l0 :: E) S (by simp; omega) (by simpa using hg)
  have hr : nxV l p sd % n < n := Nat.mod_lt _ (by omega)
  unfold wd
  generalize nxV l p sd % n = r at *
  generalize nxS l p sd = sd0 at *
  simp [F122, rcall134, hx]
  refine RunC_loop (fun i : Nat => ⟨tm 23 [(0, .ptr (lv + 1) S 0 [] 0 0), (5, .sl 0 65536 0 [] 0 i), (6, .int .i64 ((r - i : Nat) : Int))], [(65536, some ⟨0, 1, false, true, rws encU (wdN l (p + 1) sd0 i).1⟩)], E.modify lv fun h => h.set S (some (srcB l (p + 1 + i) (wdN l (p + 1) sd0 i).2))⟩)
    (fun i => i ≤ r) (fun i => r - i) 0 (Nat.zero_le _) (by simp; omega) (by simp [tm, wdN]) fun i hi _ => ?_
  have hwl := wdN_len l (p + 1) sd0 i
  by_cases hlt : i < r
  · have hlv' : lv < (E.modify lv fun h => h.set S (some (srcB l (p + 1 + i) (wdN l (p + 1) sd0 i).2))).length := by simpa using hlv
    have hg' : (hat (E.modify lv fun h => h.set S (some (srcB l (p + 1 + i) (wdN l (p + 1) sd0 i).2))) lv).get S = some (some (srcB l (p + 1 + i) (wdN l (p + 1) sd0 i).2)) := by rw [hat_modify hlv, get_set, if_pos rfl]
    have hnx := fun k l0 => next l (p + 1 + i) (wdN l (p + 1) sd0 i).2 (by omega) k (lv + 1) (l0 :: E.modify lv fun h => h.set S (some (srcB l (p + 1 + i) (wdN l (p + 1) sd0 i).2))) S (by simp; omega) (by simpa using hg')
    have hv := nxV_lt l (p + 1 + i) (wdN l (p + 1) sd0 i).2
    have hw8 := wrap8 hv
    have hnext : wdN l (p + 1) sd0 (i + 1) = ((wdN l (p + 1) sd0 i).1 ++ [UInt8.ofNat (nxV l (p + 1 + i) (wdN l (p + 1) sd0 i).2)], nxS l (p + 1 + i) (wdN l (p + 1) sd0 i).2) := rfl
    have hd : decide ((0 : Int) < ((r - i : Nat) : Int)) = true := by simp; omega
    have hsub : IntKind.wrap .i64 (((r - i : Nat) : Int) - 1) = ((r - (i + 1) : Nat) : Int) := by rw [wrap64 ⟨by omega, by omega⟩]; omega
    have happ : ∀ x : UInt8, rws encU (wdN l (p + 1) sd0 i).1 ++ [[.int .u8 (x.toNat : Int)]] = rws encU ((wdN l (p + 1) sd0 i).1 ++ [x]) := fun x => by simp [rws, encU]
    have hrl := rws_len (enc := encU) (wdN l (p + 1) sd0 i).1
    rw [hwl] at hrl
    clear hg hg' hlv' hwl
    generalize hW' : wdN l (p + 1) sd0 (i + 1) = W' at *
    generalize wdN l (p + 1) sd0 i = W at *
    generalize nxV l (p + 1 + i) W.2 = v at *
    generalize nxS l (p + 1 + i) W.2 = s1 at *
    have happ1 := happ (UInt8.ofNat v)
    generalize hR' : rws encU (W.1 ++ [UInt8.ofNat v]) = R' at *
    generalize rws encU W.1 = R at *
    generalize ((UInt8.ofNat v).toNat : Int) = cv at *
    generalize hrr : ((r - (i + 1) : Nat) : Int) = rr at *
    generalize ((r - i : Nat) : Int) = r0 at *
    simp [tm, hd, rcall148, hnx, hw8, source, evalW, hrl, happ1, modify_modify', set_set_same, hsub]
    exact ⟨by omega, i + 1, by omega, by omega, ⟨rfl, hrr.symm⟩, by rw [hW', hnext, hR'], by rw [hW', hnext]; rfl⟩
  · have : i = r := by omega
    subst this
    have hb : bytesOf (rws encU (wdN l (p + 1) sd0 i).1) = some (wdN l (p + 1) sd0 i).1 := bytesOf_rws _
    have hrl := rws_len (enc := encU) (wdN l (p + 1) sd0 i).1
    rw [hwl] at hrl
    have ht : (rws encU (wdN l (p + 1) sd0 i).1).take i = rws encU (wdN l (p + 1) sd0 i).1 := List.take_of_length_le (by omega)
    simp [tm, hb, ht, hrl, B]
theorem a8Word (k : Nat) (l : List UInt8) : call code (k + 4) 65 [.rd true (rws encU l)] [] = some ⟨.str (B (wd l 0 40 0).1), [], []⟩ := by
  refine call_run rfl fn65 rfl ?_
  have h1 := fun k => l00From k l
  have h2 := fun k lv E S hlv hg => word l 0 40 0 (by omega) (by omega) k lv E S hlv hg
  generalize (wd l 0 40 0).1 = w at *
  generalize (wd l 0 40 0).2 = s at *
  have c0 : ((0 : Nat) : Int) = 0 := rfl
  have c40 : ((40 : Nat) : Int) = 40 := rfl
  generalize 0 + 1 + nxV l 0 0 % 40 = q at *
  simp only [srcB, c0, c40] at h1 h2
  simp [F65, rcall82, h1, rcall122, h2]
theorem a8Mix (k : Nat) (l : List UInt8) (hl : l.length ≤ 1048576) : call code (k + 1) 66 [.int .i64 7, .rd true (rws encU l)] [] = some ⟨.sl 0 0 0 [] 0 (l.length + 1), [⟨0, 1, false, true, rws encU (7 :: l)⟩], []⟩ := by
  refine call_run rfl fn66 rfl ?_
  have h7 : rws encU (7 :: l) = [.int .u8 7] :: rws encU l := rfl
  have hrl := rws_len (enc := encU) l
  have hall : ∀ x ∈ rws encU l, x.length = 1 := by
    intro x hx
    simp only [rws, List.mem_map] at hx
    obtain ⟨a, _, rfl⟩ := hx
    rfl
  rw [h7]
  generalize rws encU l = R at *
  simp [F66, evalW, source, hrl]
  exact ⟨hall, by omega, by omega, by decide⟩
/-- The body drawn. -/
def bodyL (l : List UInt8) : List UInt8 := ((wd l 0 40 0).1 ++ (wd (7 :: l) 0 40 0).1).take 64
theorem bodyL_len (l : List UInt8) : (bodyL l).length ≤ 64 := by simp [bodyL]; omega
end Go.Ae.C3
