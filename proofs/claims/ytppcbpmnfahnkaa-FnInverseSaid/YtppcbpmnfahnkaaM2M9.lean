/- The rows drawn have an inverse; products of lists of cells. -/
import Derived.Test.YtppcbpmnfahnkaaM2M8
import Derived.Test.YtppcbpmnfahnkaaM2M6
namespace Go.Ae.M2
set_option linter.unusedSimpArgs false
set_option linter.unusedVariables false
theorem G_lt {k p j : Nat} (h : k + p < 256) : G k p j < 256 := by
  unfold G
  split
  · split <;> decide
  · exact gm_lt (by omega)
theorem dot_zero_left {x : Nat → Nat} : ∀ n, dot (fun _ => 0) x n = 0
  | 0 => rfl
  | n + 1 => by rw [dot, dot_zero_left n, gm_0]; rfl
theorem cert {k : Nat} {ps : List Nat} (hk : k < 7) (hs : ps ∈ subs 8) (hl : ps.length = k) {x : Nat → Nat} (hx : ∀ j, x j < 256) (hz : ∀ i, i < k → dot (G k (ps.getD i 0)) x k = 0) : ∀ a, a < k → x a = 0 := by
  intro a ha
  have h := all_chk
  rw [List.all_eq_true] at h
  have h := h k (List.mem_range.2 hk)
  rw [List.all_eq_true] at h
  have h := h ps hs
  simp only [hl, bne_self_eq_false, Bool.false_or] at h
  unfold chk at h
  rw [List.all_eq_true] at h
  have h := h a (List.mem_range.2 ha)
  generalize (certR k ps).getD a [] = nr at h
  rw [Bool.and_eq_true, List.all_eq_true, List.all_eq_true] at h
  obtain ⟨h1, h2⟩ := h
  have hn : ∀ i, nr.getD i 0 < 256 := fun i => getD_lt (fun y hy => by simpa using h1 y hy) i
  have hp : ∀ i, ps.getD i 0 < 8 := fun i => by
    by_cases hi : i < ps.length
    · rw [List.getD_eq_getElem?_getD, List.getElem?_eq_getElem hi]; exact subs_lt 8 hs _ (List.getElem_mem hi)
    · rw [List.getD_eq_getElem?_getD, List.getElem?_eq_none (by omega)]; decide
  have hG : ∀ i j, G k (ps.getD i 0) j < 256 := fun i j => G_lt (by have := hp i; omega)
  have key : ∀ i, i ≤ k → (∀ j, lsum nr k ps j i < 256) ∧ dot (fun j => lsum nr k ps j i) x k = 0 := by
    intro i
    induction i with
    | zero => exact fun _ => ⟨fun j => by simp [lsum], by simp only [lsum]; exact dot_zero_left k⟩
    | succ i ih =>
      intro hi
      obtain ⟨i1, i2⟩ := ih (by omega)
      refine ⟨fun j => xlt (i1 j) (gm_lt (hn i)), ?_⟩
      simp only [lsum]
      rw [dot_add (hn i) k (fun j _ => i1 j) (fun j _ => hG i j), i2, hz i (by omega), gm_0']; rfl
  have hd := (key k (Nat.le_refl _)).2
  rw [dot_congr (r' := idM a) (x' := x) k (fun j hj => by have := h2 j (List.mem_range.2 hj); simpa [idM] using this) (fun _ _ => rfl), dot_unit (i := a) k (fun _ _ => rfl) (fun j _ => hx j), if_pos ha] at hd
  exact hd
theorem runS_rows {k : Nat} {ps : List Nat} (hk : k < 7) (hs : ps ∈ subs 8) (hl : ps.length = k) {Y : Mx} (hY : ∀ i j, i < k → j < k → Y i j = G k (ps.getD i 0) j) (hb : bnd k Y) : ∃ p, runS k (Y, idM) k = some p ∧ Inv k k (Y, idM) p := by
  have g := (good_all (p0 := (Y, idM)) hb (idM_bnd k)).2
  cases h : runS k (Y, idM) k with
  | some p => rw [h] at g; exact ⟨p, rfl, g⟩
  | none =>
    rw [h] at g
    obtain ⟨x, m, hm, hx, hne, hsol⟩ := g
    refine absurd (cert hk hs hl hx (fun i hi => ?_) m hm) hne
    have := hsol i hi
    simp only [dot_zero] at this
    exact (dot_congr k (fun j hj => hY i j hi hj) (fun _ _ => rfl)).symm.trans this
/-- The product of a matrix and its inverse. -/
theorem prod_unit {w : Nat} {Y : Mx} {p : Mx × Mx} (h : Inv w w (Y, idM) p) {i j : Nat} (hi : i < w) (hj : j < w) : dot (Y i) (fun q => p.2 q j) w = idM i j := by
  have u : ∀ (M : Mx), bnd w M → ∀ i, i < w → dot (M i) (idM j) w = M i j := by
    intro M hM i hi
    have : ∀ n, n ≤ w → dot (M i) (idM j) n = dot (idM j) (M i) n := by
      intro n
      induction n with
      | zero => intro _; rfl
      | succ n ih =>
        intro hn
        rw [dot, dot, ih (by omega), gm_comm _ (hM i n hi (by omega)) _ (idM_bnd w j n hj (by omega))]
    rw [this w (Nat.le_refl _), dot_unit (i := j) w (fun _ _ => rfl) (fun a ha => hM i a hi ha), if_pos hj]
  have s1 : Sol w (Y, idM) (fun a => p.2 a j) (idM j) := by
    rw [sol_full h (fun a ha => h.b2 a j ha hj)]
    intro a ha
    exact (u p.2 h.b2 a ha).symm
  have := s1 i hi
  simp only at this
  rw [this, u idM (idM_bnd w) i hi]
theorem flat_range {α : Type} (w : Nat) (f : Nat → Nat → α) : ∀ n, ((List.range n).flatMap fun a => (List.range w).map fun b => f a b) = (List.range (n * w)).map fun x => f (x / w) (x % w)
  | 0 => by simp
  | n + 1 => by
    rw [List.range_succ, List.flatMap_append, flat_range w f n, Nat.add_mul, Nat.one_mul, List.range_add, List.map_append]
    congr 1
    simp only [List.flatMap_cons, List.flatMap_nil, List.append_nil, List.map_map]
    apply List.map_congr_left
    intro b hb
    have hb' := List.mem_range.1 hb
    obtain ⟨h1, h2⟩ := dm (w := w) (i := n) hb'
    simp only [Function.comp, h1, h2]
theorem ddt_dot {an bn : List Nat} {w a b : Nat} : ∀ n, ddt an bn w w a b n = dot (unfl w an a) (fun q => unfl w bn q b) n
  | 0 => rfl
  | n + 1 => by rw [ddt, dot, ddt_dot n]; rfl
theorem unfl_fl {w : Nat} {M : Mx} {i j : Nat} (hi : i < w) (hj : j < w) : unfl w (fl w M) i j = M i j := fl_get hi hj
theorem mz_unit {w : Nat} {an : List Nat} {p : Mx × Mx} (h : Inv w w (unfl w an, idM) p) : mz an (fl w p.2) w w w 0 = castL (fl w idM) := by
  unfold mz
  simp only [List.range_zero, List.map_nil, List.append_nil]
  rw [flat_range w (fun a b => ((ddt an (fl w p.2) w w a b w : Nat) : Int)) w]
  unfold castL fl
  rw [List.map_map]
  apply List.map_congr_left
  intro x hx
  have hx' := List.mem_range.1 hx
  have hw : 0 < w := by
    rcases Nat.eq_zero_or_pos w with rfl | h
    · simp at hx'
    · exact h
  have h1 : x / w < w := Nat.div_lt_of_lt_mul hx'
  have h2 : x % w < w := Nat.mod_lt _ hw
  have := ddt_dot (an := an) (bn := fl w p.2) (w := w) (a := x / w) (b := x % w) w
  have e : dot (unfl w an (x / w)) (fun q => unfl w (fl w p.2) q (x % w)) w = dot (unfl w an (x / w)) (fun q => p.2 q (x % w)) w := dot_congr w (fun _ _ => rfl) (fun q hq => unfl_fl hq h2)
  rw [e, prod_unit h h1 h2] at this
  simp only [Function.comp]
  exact congrArg _ this
theorem rwsAt_get {an : List Nat} {h w : Nat} : ∀ {ps : List Nat} {i j : Nat}, an.length = h * w → (∀ p ∈ ps, p < h) → i < ps.length → j < w → (rwsAt an w ps).getD (i * w + j) 0 = an.getD (ps.getD i 0 * w + j) 0
  | [], i, j, _, _, hi, _ => by simp at hi
  | p :: r, i, j, la, hp, hi, hj => by
    have h2 : (p + 1) * w ≤ h * w := Nat.mul_le_mul_right _ (hp p (List.mem_cons_self ..))
    have h3 : (prt an (p * w) ((p + 1) * w)).length = w := by rw [prt_len (by rw [la]; exact h2), Nat.add_mul]; omega
    have hc : rwsAt an w (p :: r) = prt an (p * w) ((p + 1) * w) ++ rwsAt an w r := by simp [rwsAt]
    rw [hc]
    cases i with
    | zero =>
      simp only [Nat.zero_mul, Nat.zero_add, List.getD_cons_zero]
      rw [List.getD_eq_getElem?_getD, List.getElem?_append_left (by omega), ← List.getD_eq_getElem?_getD, prt_get (by rw [Nat.add_mul]; omega)]
    | succ i =>
      have ih := rwsAt_get (i := i) (j := j) la (fun q hq => hp q (List.mem_cons_of_mem _ hq)) (by simpa using hi) hj
      rw [List.getD_cons_succ, ← ih]
      rw [List.getD_eq_getElem?_getD, List.getElem?_append_right (by rw [h3, Nat.add_mul]; omega), h3, ← List.getD_eq_getElem?_getD]
      congr 1
      rw [Nat.add_mul]; omega
theorem gN_get {k m p j : Nat} (hk : k + m ≤ 8) (hp : p < k + m) (hj : j < k) : (gN k m).getD (p * k + j) 0 = G k p j := by
  rw [gN_G k (by omega) m (by omega) hk]
  obtain ⟨h1, h2⟩ := dm (w := k) (i := p) hj
  have hlt : p * k + j < (k + m) * k := by
    have : (p + 1) * k ≤ (k + m) * k := Nat.mul_le_mul_right _ hp
    rw [Nat.add_mul] at this; omega
  rw [List.getD_eq_getElem?_getD, List.getElem?_eq_getElem (by simpa using hlt)]
  simp [h1, h2]
theorem rows_G {k m : Nat} {ps : List Nat} (hk : k + m ≤ 8) (hp : ∀ p ∈ ps, p < k + m) (hl : ps.length = k) {i j : Nat} (hi : i < k) (hj : j < k) : unfl k (rwsAt (gN k m) k ps) i j = G k (ps.getD i 0) j := by
  unfold unfl
  rw [rwsAt_get gN_len hp (by omega) hj]
  refine gN_get hk ?_ hj
  rw [List.getD_eq_getElem?_getD, List.getElem?_eq_getElem (by omega)]
  exact hp _ (List.getElem_mem _)
theorem head_unit {k m : Nat} (hk : k + m ≤ 8) : rwsAt (gN k m) k (List.range k) = fl k idM := by
  have hp : ∀ p ∈ List.range k, p < k + m := fun p hp => by have := List.mem_range.1 hp; omega
  have hl : (rwsAt (gN k m) k (List.range k)).length = k * k := by rw [rwsAt_len gN_len hp, List.length_range]
  rw [← fl_unfl hl]
  apply fl_congr
  intro i j hi hj
  rw [rows_G hk hp (by simp) hi hj]
  have : (List.range k).getD i 0 = i := by rw [List.getD_eq_getElem?_getD, List.getElem?_eq_getElem (by simpa using hi)]; simp
  rw [this]
  simp [G, hi, idM]
end Go.Ae.M2
namespace Go.Ae.M2
set_option linter.unusedSimpArgs false
set_option linter.unusedVariables false
theorem codeMatrix (n : Nat) (k m : Nat) (hk : 1 ≤ k) (hm : k + m ≤ 8) : call code (n + 6) 10 [.int .i64 k, .int .i64 m] [] = some ⟨.tup [.agg [.int .i64 (k + m : Nat), .int .i64 k, .sl 0 0 0 [] 0 (gz k m 0).length], .int .i64 0], [⟨0, 1, false, true, rowsZ (gz k m 0)⟩], []⟩ := by
  refine call_run rfl fn10 rfl ?_
  have i1 : inB (k : Int) 1 8 = true := by simp [inB]; omega
  have e1 : IntKind.wrap .i64 (8 - (k : Int)) = 8 - (k : Int) := wrap64 ⟨by omega, by omega⟩
  have i2 : inB (m : Int) 0 (8 - (k : Int)) = true := by simp [inB]; omega
  have hg := fun n => generator n k m hk hm
  generalize (gz k m 0).length = L at *
  generalize hkm : k + m = km at *
  simp [F10, rcall30, between, i1, e1, i2, rcall31, hg]
theorem invOk (k n : Nat) (an : List Nat) (hn : 1 ≤ n ∧ n ≤ 8) (hl : an.length = n * n) (ha : ∀ x ∈ an, x < 256) (hb : matB n n (castL an) = true) {p : Mx × Mx} (hr : runS n (unfl n an, idM) n = some p) :
    call code (k + 8) 21 [.agg [.int .i64 n, .int .i64 n, .rd true (rowsZ (castL an))]] [] = some ⟨.tup [.agg [.int .i64 n, .int .i64 n, .sl 0 0 0 [] 0 (n * n)], .int .i64 0], [⟨0, 1, false, true, rowsZ (castL (fl n p.2))⟩], []⟩ := by
  have h64 : n * n ≤ 8 * 8 := Nat.mul_le_mul hn.2 hn.2
  have o1 := fun k => matrixOk k n n (castL an) (by rw [castL_len, hl]; omega)
  have hM := unfl_bnd (w := n) ha
  have hrr : rowsZ (castL an) = rowsM n (unfl n an) := by rw [rowsM, fl_unfl hl]
  have i1 := fun k => inverted k n (unfl n an) hn hM
  rw [both_inv hM, hr] at i1
  rw [hb] at o1
  rw [hrr] at o1 ⊢
  simp only [resInv, mb] at i1
  refine call_run rfl fn21 rfl ?_
  rw [show rowsZ (castL (fl n p.2)) = rowsM n p.2 from rfl]
  generalize n * n = nn at *
  simp [F21, rcall39, o1, rcall45, i1]
theorem matB_ok {h w : Nat} {an : List Nat} (hh : 1 ≤ h ∧ h ≤ 8) (hw : 1 ≤ w ∧ w ≤ 8) (hl : an.length = h * w) (ha : ∀ x ∈ an, x < 256) : matB h w (castL an) = true := by
  unfold matB
  simp only [Bool.and_eq_true, beq_iff_eq]
  refine ⟨⟨⟨by simp [inB]; omega, by simp [inB]; omega⟩, by rw [castL_len, hl]; simp⟩, ?_⟩
  rw [List.all_eq_true]
  intro x hx
  simp only [castL, List.mem_map] at hx
  obtain ⟨y, hy, rfl⟩ := hx
  have := ha y hy
  simp [elB, inB]; omega
set_option maxRecDepth 100000 in
set_option maxHeartbeats 64000000 in
theorem law5 (n : Nat) (l : List UInt8) : call code (n + 10) 5 [.rd true (rws encU l)] [] = some ⟨.bool true, [], []⟩ := by
  refine call_run rfl fn5 rfl ?_
  by_cases hbig : 1048576 < l.length
  · have hb' : decide ((1048576 : Int) < (l.length : Int)) = true := by simp; omega
    simp [F5, hb']
  have hb' : decide ((1048576 : Int) < (l.length : Int)) = false := by simp; omega
  have hl : l.length ≤ 1048576 := by omega
  have a0 : ∀ k, call code (k + 1) 18 [.rd true (rws encU l), .int .i64 0, .int .i64 6] [] = some ⟨.int .i64 (aAt l 0 6 : Nat), [], []⟩ := fun k => a8At k l 0 6 hl (by omega) (by omega)
  have q0 := aAt_lt l 0 6 (by omega)
  generalize aAt l 0 6 = v0 at *
  have e1 : IntKind.wrap .i64 (1 + (v0 : Int)) = ((1 + v0 : Nat) : Int) := by rw [wrap64 ⟨by omega, by omega⟩]; omega
  generalize hk : 1 + v0 = k at *
  have e2 : IntKind.wrap .i64 (9 - (k : Int)) = ((9 - k : Nat) : Int) := by rw [wrap64 ⟨by omega, by omega⟩]; omega
  have a1 : ∀ j, call code (j + 1) 18 [.rd true (rws encU l), .int .i64 1, .int .i64 ((9 - k : Nat) : Int)] [] = some ⟨.int .i64 (aAt l 1 (9 - k) : Nat), [], []⟩ := fun j => a8At j l 1 (9 - k) hl (by omega) (by omega)
  have q1 := aAt_lt l 1 (9 - k) (by omega)
  generalize aAt l 1 (9 - k) = m at *
  have hkm : k + m ≤ 8 := by omega
  generalize 9 - k = n9 at *
  have hk7 : k < 7 := by omega
  have hk1 : 1 ≤ k := by omega
  have e3 : IntKind.wrap .i64 ((k : Int) + (m : Int)) = ((k + m : Nat) : Int) := by rw [wrap64 ⟨by omega, by omega⟩]; omega
  have hcm := fun n => codeMatrix n k m hk1 hkm
  have hpl := fun j => a8Places j l k (k + m) hl (by omega) (by omega)
  have hps := subs_mono (n := k + m) 8 hkm _ (plc_subs l k (k + m) (k + m))
  have hpn := subs_lt _ (plc_subs l k (k + m) (k + m))
  have hpk := plc_all l k (k + m) (by omega)
  generalize plc l k (k + m) (k + m) = ps at *
  have hg : castL (gN k m) = gz k m 0 := gN_cast hkm
  have hgl := gN_len (k := k) (m := m)
  have hgb := gN_lt hkm
  have mb1 : matB (k + m : Nat) k (castL (gN k m)) = true := matB_ok ⟨by omega, hkm⟩ ⟨hk1, by omega⟩ hgl hgb
  have mr1 := fun n => matRows n (k + m) k (gN k m) ps hgl mb1 hpn ⟨by omega, by omega⟩
  have yl : (rwsAt (gN k m) k ps).length = k * k := by rw [rwsAt_len hgl hpn, hpk]
  have yb : ∀ x ∈ rwsAt (gN k m) k ps, x < 256 := by
    intro x hx
    simp only [rwsAt, List.mem_flatMap] at hx
    obtain ⟨p, _, hx⟩ := hx
    exact hgb x (List.mem_of_mem_drop hx |> List.mem_of_mem_take)
  obtain ⟨p, hp, hinv⟩ := runS_rows hk7 hps hpk (fun i j hi hj => rows_G hkm hpn hpk hi hj) (unfl_bnd yb)
  have mb2 : matB k k (castL (rwsAt (gN k m) k ps)) = true := matB_ok ⟨hk1, by omega⟩ ⟨hk1, by omega⟩ yl yb
  have iv := fun n => invOk n k _ ⟨hk1, by omega⟩ yl yb mb2 hp
  have zb : ∀ x ∈ fl k p.2, x < 256 := fl_lt hinv.b2
  have mb3 : matB k k (castL (fl k p.2)) = true := matB_ok ⟨hk1, by omega⟩ ⟨hk1, by omega⟩ (fl_len _ _) zb
  have h64 : k * k ≤ 8 * 8 := Nat.mul_le_mul (by omega) (by omega)
  have mm := fun n => implMulOk n k k k _ (fl k p.2) (by omega) (by omega) (by omega) yb zb yl (fl_len _ _) mb2 mb3 (by omega) (by omega)
  have hu := mz_unit hinv
  have huz : castL (fl k idM) = uz k k := (uz_id k (by omega)).symm
  rw [hu] at mm
  have hul : (castL (fl k idM)).length = k * k := by rw [castL_len, fl_len]
  rw [hul] at mm
  have mu := fun n => matUnit n k ⟨hk1, by omega⟩
  rw [← huz] at mu
  have mr2 := fun n => matRows n (k + m) k (gN k m) (List.range k) hgl mb1 (fun p hp => by have := List.mem_range.1 hp; omega) ⟨by simp; omega, by simp; omega⟩
  rw [head_unit hkm, fl_len] at mr2
  have mb4 : matB k k (castL (fl k idM)) = true := matB_ok ⟨hk1, by omega⟩ ⟨hk1, by omega⟩ (fl_len _ _) (fl_lt (idM_bnd k))
  have sm := fun n => sameMatrix n k k (castL (fl k idM)) (by rw [hul]; omega) mb4
  rw [hg] at mr1 mr2
  have hgzl : (gz k m 0).length = (k + m) * k := by rw [← hg, castL_len, hgl]
  have e4 : IntKind.wrap .i64 (((k + m : Nat) : Int) * (k : Int)) = (((k + m) * k : Nat) : Int) := by
    have : (k + m) * k ≤ 8 * 8 := Nat.mul_le_mul hkm (by omega)
    rw [show ((k + m : Nat) : Int) * (k : Int) = (((k + m) * k : Nat) : Int) by simp, wrap64 ⟨by omega, by omega⟩]
  rw [yl] at mr1
  rw [hpk] at mr1 hpl
  rw [List.length_range] at mr2
  rw [hgzl] at hcm
  have hul2 : (rowsZ (castL (fl k idM))).length = k * k := by rw [rowsZ_len, hul]
  have hyl2 : (rowsZ (castL (rwsAt (gN k m) k ps))).length = k * k := by rw [rowsZ_len, castL_len, yl]
  have hzl2 : (rowsZ (castL (fl k p.2))).length = k * k := by rw [rowsZ_len, castL_len, fl_len]
  have hgl2 : (rowsZ (gz k m 0)).length = (k + m) * k := by rw [rowsZ_len, hgzl]
  have hpl2 : (rowsZ (castL ps)).length = k := by rw [rowsZ_len, castL_len, hpk]
  clear hu huz hinv hp
  generalize rowsZ (castL (fl k idM)) = U at *
  generalize rowsZ (castL (rwsAt (gN k m) k ps)) = Y at *
  generalize rowsZ (castL (fl k p.2)) = Z at *
  generalize rowsZ (gz k m 0) = X at *
  generalize rowsZ (castL ps) = P at *
  generalize (k + m) * k = kmk at *
  generalize k * k = kk at *
  generalize hkme : k + m = km at *
  have tX : X.take kmk = X := List.take_of_length_le (by omega)
  have tP : P.take k = P := List.take_of_length_le (by omega)
  have tY : Y.take kk = Y := List.take_of_length_le (by omega)
  have tZ : Z.take kk = Z := List.take_of_length_le (by omega)
  have tU : U.take kk = U := List.take_of_length_le (by omega)
  simp (maxSteps := 20000000) [tX, tP, tY, tZ, tU, F5, hb', rcall18, a0, e1, e2, a1, rcall10, hcm, e3, rcall19, hpl, hpl2, rcall20, hgl2, mr1, rcall21, hyl2, iv, rcall17, hzl2, mm, rcall22, mu]
  refine RunC_loop (fun i : Nat => ⟨tm 123 [(3, .int .i64 k), (4, .int .i64 m), (5, .ptr 0 329216 0 [] 0 0), (6, .int .i64 0), (9, .int .i64 0), (11, .int .i64 0), (12, .ptr 0 591360 0 [] 0 0), (13, .int .i64 0), (14, .ptr 0 656640 0 [] 0 0), (15, .int .i64 0), (16, .sl 0 720896 0 [] 0 i), (17, .int .i64 i)],
      [(328192, some ⟨0, 1, false, true, X⟩), (329216, some ⟨0, 3, true, false, [[.int .i64 km, .int .i64 k, .sl 0 328192 0 [] 0 kmk]]⟩), (329219, some ⟨0, 1, false, true, []⟩), (394496, some ⟨0, 1, false, true, P⟩), (459264, some ⟨0, 1, false, true, Y⟩), (460288, some ⟨0, 3, true, false, [[.int .i64 k, .int .i64 k, .sl 0 459264 0 [] 0 kk]]⟩), (460291, some ⟨0, 1, false, true, []⟩), (524544, some ⟨0, 1, false, true, Z⟩), (525568, some ⟨0, 3, true, false, [[.int .i64 k, .int .i64 k, .sl 0 524544 0 [] 0 kk]]⟩), (525571, some ⟨0, 1, false, true, []⟩), (590336, some ⟨0, 1, false, true, U⟩), (591360, some ⟨0, 3, true, false, [[.int .i64 k, .int .i64 k, .sl 0 590336 0 [] 0 kk]]⟩), (591363, some ⟨0, 1, false, true, []⟩), (655616, some ⟨0, 1, false, true, U⟩), (656640, some ⟨0, 3, true, false, [[.int .i64 k, .int .i64 k, .sl 0 655616 0 [] 0 kk]]⟩), (656643, some ⟨0, 1, false, true, []⟩), (720896, some ⟨0, 1, false, true, rowsZ (castL (List.range i))⟩)], []⟩)
    (fun i => i ≤ k) (fun i => k - i) 0 (Nat.zero_le _) (by simp; omega) (by simp [tm, castL, rowsZ]) fun i hi _ => ?_
  by_cases hlt : i < k
  · have hs := idx_succ' hlt (by omega)
    have happ : rowsZ (castL (List.range i)) ++ [[.int .i64 (i : Int)]] = rowsZ (castL (List.range (i + 1))) := by simp [rowsZ, castL, List.range_succ]
    have hrl : (rowsZ (castL (List.range i))).length = i := by rw [rowsZ_len, castL_len, List.length_range]
    generalize hR' : rowsZ (castL (List.range (i + 1))) = R' at *
    generalize rowsZ (castL (List.range i)) = R at *
    simp [tm, hlt, hs, source, evalW, hrl, happ]
    exact ⟨⟨by omega, by omega⟩, i + 1, by omega, by omega, by simp, by rw [hR']⟩
  · have hik : i = k := by omega
    rw [hik]
    have tQ : (rowsZ (castL (List.range k))).take k = rowsZ (castL (List.range k)) := List.take_of_length_le (by rw [rowsZ_len, castL_len, List.length_range]; exact Nat.le_refl _)
    have hrl : (rowsZ (castL (List.range k))).length = k := by rw [rowsZ_len, castL_len, List.length_range]
    generalize rowsZ (castL (List.range k)) = R at *
    simp (maxSteps := 20000000) [tm, tX, tQ, tU, hrl, rcall20, mr2, rcall23, sm, hgl2, hul2, e3, e4]
theorem fitU : ∀ {xs : List (List AV)}, (∀ r ∈ xs, FitsAll [.int .u8] r) → ∃ l : List UInt8, xs = rws encU l
  | [], _ => ⟨[], rfl⟩
  | r :: xs, h => by
    have h0 := h r List.mem_cons_self
    obtain ⟨_, _, rfl, h1, h0⟩ := h0.cons_inv
    obtain rfl := h0.nil_inv
    obtain ⟨v0, rfl, w0⟩ := h1.int_inv
    simp [Lit.wf, IntKind.min, IntKind.max, IntKind.signed, IntKind.bits] at w0
    obtain ⟨ws, rfl⟩ := fitU fun x hx => h x (List.mem_cons_of_mem _ hx)
    refine ⟨UInt8.ofNat v0.toNat :: ws, ?_⟩
    have hv : ((UInt8.ofNat v0.toNat).toNat : Int) = v0 := by
      rw [UInt8.toNat_ofNat_of_lt' (by show v0.toNat < 256; omega)]; omega
    rw [rws_cons, encU, hv]
theorem lawAnyRows (avs : List AV) (h : PFitsAll [(false, [.sl 1 [.int .u8]])] avs) : ∃ n bs e, call code n 5 avs [] = some ⟨.bool true, bs, e⟩ := by
  obtain ⟨v0, r, rfl, h0, h⟩ := h.cons_inv
  obtain rfl := h.nil_inv
  obtain ⟨ys, rfl, _, kr⟩ := h0.one_inv.sl_inv
  obtain ⟨l, rfl⟩ := fitU kr
  exact ⟨_, _, _, law5 0 l⟩
end Go.Ae.M2
