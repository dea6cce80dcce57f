/- WideWhole, the program's and the reference's; the law. -/
import Derived.Test.YtnfghcflpnlbiaaC3M5
import Derived.Test.YtnfghcflpnlbiaaC3M10
namespace Go.Ae.C3
set_option linter.unusedSimpArgs false
set_option linter.unusedVariables false
def neAt (xs ys : List ByteArray) (i : Nat) : Bool := !((xs.getD i ByteArray.empty).toList == (ys.getD i ByteArray.empty).toList)
/-- Two lists of one length: the same texts. -/
def sameB (xs ys : List ByteArray) : Bool := (List.range xs.length).all fun i => !neAt xs ys i
theorem sameB_true {xs ys : List ByteArray} (h : ∀ i, i < xs.length → neAt xs ys i = false) : sameB xs ys = true := by
  unfold sameB; rw [List.all_eq_true]; intro i hi; rw [h i (List.mem_range.1 hi)]; rfl
theorem sameB_false {xs ys : List ByteArray} {i : Nat} (hi : i < xs.length) (h : neAt xs ys i = true) : sameB xs ys = false := by
  unfold sameB; rw [List.all_eq_false]; exact ⟨i, List.mem_range.2 hi, by simp [h]⟩
theorem neAt_get {xs ys : List ByteArray} {i : Nat} (h : i < xs.length) (h' : i < ys.length) : neAt xs ys i = !(xs[i].toList == ys[i].toList) := by
  unfold neAt; rw [List.getD_eq_getElem?_getD, List.getD_eq_getElem?_getD, List.getElem?_eq_getElem h, List.getElem?_eq_getElem h']; rfl
set_option maxHeartbeats 4000000 in
theorem equalS (k : Nat) (xs ys : List ByteArray) (hn : xs.length ≤ 1048576) (hl : ys.length = xs.length) : call code (k + 1) 100 [.rd true (rws encT xs), .rd true (rws encT ys)] [] = some ⟨.bool (sameB xs ys), [], []⟩ := by
  refine call_run rfl fn100 rfl ?_
  simp [F100, hl]
  refine RunC_loop (fun i : Nat => ⟨tm 26 [(0, .rd true (rws encT xs)), (1, .rd true (rws encT ys)), (12, .int .i64 xs.length), (13, .int .i64 i)], [], []⟩)
    (fun i => i ≤ xs.length ∧ ∀ j, j < i → neAt xs ys j = false) (fun i => xs.length - i) 0 ⟨Nat.zero_le _, fun j hj => by omega⟩ (by simp; omega) (by simp [tm]) fun i hi _ => ?_
  obtain ⟨hi, hall⟩ := hi
  by_cases hlt : i < xs.length
  · have hs := idx_succ' hlt (by omega)
    have hly : i < ys.length := by omega
    have hg := neAt_get hlt hly
    have hfin : neAt xs ys i = true → sameB xs ys = false := sameB_false hlt
    cases hd : neAt xs ys i
    · have hnx : ∀ j, j < i + 1 → neAt xs ys j = false := fun j h => by
        rcases Nat.lt_succ_iff_lt_or_eq.1 h with h' | rfl
        · exact hall j h'
        · exact hd
      rw [hd] at hg
      simp [tm, hlt, hly, hs, encT, ← hg]
      exact ⟨i + 1, ⟨by omega, hnx⟩, by omega, by simp⟩
    · rw [hfin hd]
      rw [hd] at hg
      simp [tm, hlt, hly, hs, encT, ← hg]
  · have : i = xs.length := by omega
    subst this
    rw [sameB_true hall]
    simp [tm]
end Go.Ae.C3
namespace Go.Ae.C3
set_option linter.unusedSimpArgs false
set_option linter.unusedVariables false
def oddB (a b q : Nat) (ws : List GShard) (s : GShard) : Bool := !((B ((anewD a b q ws).getD s.Pos.toNat [])).toList == s.Bytes.toList)
def oddL (a b q : Nat) (ws : List GShard) (i : Nat) : List Int := ((ws.take i).filter (oddB a b q ws)).map GShard.Pos
theorem oddL_len (a b q : Nat) (ws : List GShard) (i : Nat) : (oddL a b q ws i).length ≤ i := by
  unfold oddL
  rw [List.length_map]
  exact Nat.le_trans (List.length_filter_le _ _) (by simp; omega)
theorem oddL_next {a b q : Nat} {ws : List GShard} {i : Nat} (h : i < ws.length) : oddL a b q ws (i + 1) = if oddB a b q ws ws[i] = true then oddL a b q ws i ++ [ws[i].Pos] else oddL a b q ws i := by
  unfold oddL
  rw [List.take_succ_eq_append_getElem h, List.filter_append]
  cases hc : oddB a b q ws ws[i] <;> simp [hc, List.filter]
def resZ (zs : List Int) (e : Int) : Res := ⟨.tup [.sl 0 0 0 [] 0 zs.length, .int .i64 e], [⟨0, 1, false, true, rws encI zs⟩], []⟩
end Go.Ae.C3
namespace Go.Ae.C3
set_option linter.unusedSimpArgs false
set_option linter.unusedVariables false
def byt (l : List UInt8) (t : Nat) : Nat := (l.getD t 0).toNat
theorem byt_lt (l : List UInt8) (t : Nat) : byt l t < 256 := UInt8.toNat_lt _
theorem byt_ext {l r : List UInt8} (h : l.length = r.length) (hb : ∀ t, t < l.length → byt l t = byt r t) : l = r := by
  apply List.ext_getElem h
  intro t h1 h2
  have := hb t h1
  simp only [byt, List.getD_eq_getElem?_getD, List.getElem?_eq_getElem h1, List.getElem?_eq_getElem h2, Option.getD_some] at this
  exact UInt8.toNat_inj.1 this
theorem sm_byt {l r : List UInt8} {t : Nat} (h : l.length = r.length) (ht : t < l.length) : byt (sm l r) t = byt l t ^^^ byt r t := by
  have h2 : t < r.length := by omega
  simp [byt, sm, List.getD_eq_getElem?_getD, List.getElem?_zipWith, List.getElem?_eq_getElem ht, List.getElem?_eq_getElem h2]
theorem scl_byt {c : Nat} {l : List UInt8} {t : Nat} (hc : c < 256) (ht : t < l.length) : byt (scl c l) t = gm c (byt l t) := by
  have h := gm_lt (b := (l[t]).toNat) hc
  simp [byt, scl, List.getD_eq_getElem?_getD, List.getElem?_eq_getElem ht]
  omega
theorem acc_byt {an : List Nat} {w n i t : Nat} {ls : List (List UInt8)} (hl : ∀ l ∈ ls, l.length = n) (ha : ∀ x ∈ an, x < 256) (ht : t < n) : ∀ k, k ≤ ls.length → byt (acc an w ls n i k) t = dot (fun j => an.getD (i * w + j) 0) (fun j => byt (ls.getD j []) t) k
  | 0, _ => by simp [acc, dot, byt, List.getD_eq_getElem?_getD, ht]
  | k + 1, hk => by
    have ih := acc_byt (i := i) (w := w) hl ha ht k (by omega)
    have h1 := acc_len (i := i) (an := an) (w := w) hl k (by omega)
    have h2 : (ls.getD k []).length = n := by
      rw [List.getD_eq_getElem?_getD, List.getElem?_eq_getElem (by omega)]
      exact hl _ (List.getElem_mem _)
    have h3 : (scl (an.getD (i * w + k) 0) (ls.getD k [])).length = n := by simp [scl]; simpa using h2
    rw [acc, sm_byt (by omega) (by omega), ih, scl_byt (getD_lt ha _) (by omega)]
    rfl
theorem pcs_get {an : List Nat} {h w n p : Nat} {ls : List (List UInt8)} (hp : p < h) : (pcs an h w ls n).getD p [] = acc an w ls n p w := by
  simp [pcs, List.getD_eq_getElem?_getD, hp]
theorem recD_orig {a b : Nat} {l : List UInt8} {ws : List GShard} (H : HaveF a b (psz a l.length) ws) (h : a ≤ ws.length) (hsh : ∀ i (hi : i < ws.length), ws[i].Bytes = B ((shs a b l).getD ws[i].Pos.toNat [])) : recD a b (psz a l.length) ws = dat a l a := by
  obtain ⟨p, hp, hinv⟩ := invH_some H h
  have h1 := H.a1
  have h2 := H.b1
  have hkm : a + b ≤ 8 := by omega
  have zb : ∀ x ∈ fl a p.2, x < 256 := fl_lt hinv.b2
  simp only [recD, hp]
  have hda := dat_all (K := a) (l := l) h1.1
  have hdl : (dat a l a).length = a := by simp [dat]
  unfold dat
  rw [show pcs (fl a p.2) a a (bL a ws) (psz a l.length) = (List.range a).map fun r => acc (fl a p.2) a (bL a ws) (psz a l.length) r a from rfl]
  refine List.map_congr_left fun r hr => ?_
  have hr' := List.mem_range.1 hr
  have hl1 := acc_len (an := fl a p.2) (w := a) (i := r) (bL_all H) a (by rw [bL_len h]; exact Nat.le_refl _)
  have hl2 := cut_len (l := l) h1.1 hr'
  refine byt_ext (by rw [hl1, hl2]) fun t ht => ?_
  rw [hl1] at ht
  rw [acc_byt (bL_all H) zb ht a (by rw [bL_len h]; exact Nat.le_refl _)]
  let x : Nat → Nat := fun j => byt ((dat a l a).getD j []) t
  let y : Nat → Nat := fun j => byt ((bL a ws).getD j []) t
  have hxr : byt (cutAt (psz a l.length) (pad a l) r) t = x r := by
    simp [x, dat, List.getD_eq_getElem?_getD, hr']
  rw [hxr]
  have e1 : dot (fun j => (fl a p.2).getD (r * a + j) 0) y a = dot (p.2 r) y a := dot_congr a (fun j hj => fl_get hr' hj) (fun _ _ => rfl)
  rw [e1]
  have hsol : Sol a (unfl a (rwsAt (gN a b) a (pL a ws)), idM) x y := by
    intro i hi
    rw [show dot ((unfl a (rwsAt (gN a b) a (pL a ws)), idM).2 i) y a = dot (idM i) y a from rfl, dot_unit (i := i) a (fun _ _ => rfl) (fun j _ => byt_lt _ _), if_pos hi]
    have hiw : i < ws.length := by omega
    have hpos := H.pos i hiw
    have hb1 : (bL a ws).getD i [] = (shs a b l).getD ws[i].Pos.toNat [] := by
      have hlt : i < (bL a ws).length := by rw [bL_len h]; exact hi
      rw [List.getD_eq_getElem?_getD, List.getElem?_eq_getElem hlt]
      simp only [bL, Option.getD_some, List.getElem_map, List.getElem_take]
      rw [hsh i hiw, B_list]
    have hpl : (pL a ws).getD i 0 = ws[i].Pos.toNat := by
      have hlt : i < (pL a ws).length := by rw [pL_len h]; exact hi
      rw [List.getD_eq_getElem?_getD, List.getElem?_eq_getElem hlt]
      simp only [pL, Option.getD_some, List.getElem_map, List.getElem_take]
    show dot (unfl a (rwsAt (gN a b) a (pL a ws)) i) x a = byt ((bL a ws).getD i []) t
    rw [hb1, shs, pcs_get (by omega), acc_byt hda (gN_lt hkm) ht a (by rw [hdl]; exact Nat.le_refl _)]
    refine dot_congr a (fun j hj => ?_) (fun _ _ => rfl)
    unfold unfl
    rw [rwsAt_get gN_len (pL_lt H) (by rw [pL_len h]; exact hi) hj, hpl]
  rw [sol_full hinv (fun j _ => byt_lt _ _)] at hsol
  exact (hsol r hr').symm
theorem cuts_flat (q : Nat) (p : List UInt8) : ∀ k, ((List.range k).map (cutAt q p)).flatten = p.take (k * q)
  | 0 => by simp
  | k + 1 => by
    rw [List.range_succ, List.map_append, List.flatten_append, cuts_flat q p k, Nat.add_mul, Nat.one_mul, List.take_add]
    simp [cutAt]
theorem dat_body {a : Nat} {l : List UInt8} (ha : 1 ≤ a) : (dat a l a).flatten.take l.length = l := by
  unfold dat
  rw [cuts_flat]
  have h1 := pad_len (l := l) ha
  have h2 : (pad a l).take (a * psz a l.length) = pad a l := List.take_of_length_le (by rw [h1, Nat.mul_comm]; exact Nat.le_refl _)
  rw [h2]
  simp [pad]
theorem bodyD_orig {a b : Nat} {l : List UInt8} {ws : List GShard} (H : HaveF a b (psz a l.length) ws) (h : a ≤ ws.length) (hsh : ∀ i (hi : i < ws.length), ws[i].Bytes = B ((shs a b l).getD ws[i].Pos.toNat [])) : bodyD a b l.length ws = l := by
  unfold bodyD
  rw [recD_orig H h hsh, dat_body H.a1.1]
theorem anewD_orig {a b : Nat} {l : List UInt8} {ws : List GShard} (H : HaveF a b (psz a l.length) ws) (h : a ≤ ws.length) (hsh : ∀ i (hi : i < ws.length), ws[i].Bytes = B ((shs a b l).getD ws[i].Pos.toNat [])) : anewD a b (psz a l.length) ws = shs a b l := by
  unfold anewD shs
  rw [recD_orig H h hsh]
end Go.Ae.C3
namespace Go.Ae.C3
set_option linter.unusedSimpArgs false
set_option linter.unusedVariables false
theorem uz_unit : ∀ a, a < 5 → ∀ i, i < a → ∀ j, j < a → ((uz a a).map Int.toNat)[i * a + j]? = some (if i = j then 1 else 0) := by decide +kernel
theorem gN_unit {a b i j : Nat} (ha : a ≤ 4) (hi : i < a) (hj : j < a) : (gN a b).getD (i * a + j) 0 = idM i j := by
  have h := uz_unit a (by omega) i hi j hj
  have hl : i * a + j < ((uz a a).map Int.toNat).length := by
    have := List.getElem?_eq_some_iff.1 h
    exact this.1
  rw [List.getD_eq_getElem?_getD]
  have e : gN a b = (uz a a).map Int.toNat ++ ((((List.range 0).flatMap fun a' => (List.range a).map fun b => ((entry a a' b : Nat) : Int))).map Int.toNat ++ (((List.range b).flatMap fun a' => (List.range a).map fun b => ((entry a a' b : Nat) : Int))).map Int.toNat) := by
    simp [gN, gz]
  rw [e, List.getElem?_append_left hl, h]
  rfl
theorem dWs_at {a u : Nat} {l : List UInt8} {c : Nat} (hc : c < a) : (dWs a u l a).getD c [] = dW a u l c := by
  simp [dWs, List.getD_eq_getElem?_getD, hc]
theorem wid_top {a b u : Nat} {l : List UInt8} {c : Nat} (ha : 1 ≤ a ∧ a ≤ 4) (hb : b ≤ 3) (hc : c < a) : (wid a b u l).getD c [] = dW a u l c := by
  unfold wid
  rw [pcs_get (by omega)]
  have hl1 := acc_len (an := gN a b) (w := a) (i := c) (dWs_all a u l a) a (by rw [dWs_len]; exact Nat.le_refl _)
  have hl2 := dW_len a u l c
  refine byt_ext (by rw [hl1, hl2]) fun t ht => ?_
  rw [hl1] at ht
  rw [acc_byt (dWs_all a u l a) (gN_lt (by omega)) ht a (by rw [dWs_len]; exact Nat.le_refl _)]
  rw [dot_unit (i := c) a (fun j hj => gN_unit ha.2 hc hj) (fun j _ => byt_lt _ _), if_pos hc, dWs_at hc]
theorem Blist (l : List UInt8) : (B l).data.toList = l := by simp [B]
theorem rdAt_wid {a b u : Nat} {l : List UInt8} {p : Nat} (ha : 1 ≤ a ∧ a ≤ 4) (hb : b ≤ 3) (hu : 1 ≤ u) (hp : p < l.length) : rdAt a u ((wid a b u l).map B) p = l.getD p 0 := by
  have hc := colN_lt ha.1 hu p
  have ho := offN_lt ha.1 hu hp
  have hl := wid_len a b u l
  unfold rdAt
  have e : ((wid a b u l).map B).getD (colN a u p) ByteArray.empty = B (dW a u l (colN a u p)) := by
    rw [← wid_top (b := b) ha hb hc]
    rw [List.getD_eq_getElem?_getD, List.getD_eq_getElem?_getD, List.getElem?_map, List.getElem?_eq_getElem (by omega)]
    rfl
  rw [e, Blist]
  unfold dW dWi
  rw [List.getD_eq_getElem?_getD, List.getElem?_map, List.getElem?_range ho]
  simp only [Option.map_some, Option.getD_some, pos_of_cell ha.1 hu]
theorem rdB_wid {a b u : Nat} {l : List UInt8} {at_ m : Nat} (ha : 1 ≤ a ∧ a ≤ 4) (hb : b ≤ 3) (hu : 1 ≤ u) (h : at_ + m ≤ l.length) : rdB a u ((wid a b u l).map B) at_ m = (l.drop at_).take m := by
  apply List.ext_getElem
  · rw [rdB_len, List.length_take, List.length_drop]; omega
  · intro i h1 h2
    rw [rdB_len] at h1
    have e : (rdB a u ((wid a b u l).map B) at_ m)[i] = rdAt a u ((wid a b u l).map B) (at_ + i) := by simp [rdB]
    rw [e, rdAt_wid ha hb hu (by omega), List.getElem_take, List.getElem_drop, List.getD_eq_getElem?_getD, List.getElem?_eq_getElem (by omega)]
    rfl
theorem wid_all {a b u : Nat} {l : List UInt8} : ∀ x ∈ wid a b u l, x.length = tallN a u l.length := fun x hx => by
  unfold wid pcs at hx
  obtain ⟨i, _, rfl⟩ := List.mem_map.1 hx
  exact acc_len (dWs_all a u l a) a (by rw [dWs_len]; exact Nat.le_refl _)
theorem wide_wid {a b u : Nat} {l : List UInt8} (ha : 1 ≤ a ∧ a ≤ 4) (hb : b ≤ 3) (hu : 1 ≤ u ∧ u ≤ 8) (hl : l.length ≤ 256) : Wide a b u l.length ((wid a b u l).map B) where
  a1 := ha.1
  a4 := ha.2
  b3 := hb
  u1 := hu.1
  u8 := hu.2
  n256 := hl
  len := by rw [List.length_map, wid_len]
  all := fun s hs => by
    obtain ⟨x, hx, rfl⟩ := List.mem_map.1 hs
    rw [bsz, wid_all x hx]
theorem Wide.ok {a b u n : Nat} {ws : List ByteArray} (h : Wide a b u n ws) : wideB a b u n ws = true := by
  have := h.a1; have := h.a4; have := h.b3; have := h.u1; have := h.u8; have := h.n256; have := h.len
  unfold wideB
  have c1 : codeB a b = true := by simp [codeB, inB]; omega
  have c2 : inB (u : Int) 1 8 = true := by simp [inB]; omega
  have c3 : inB (n : Int) 0 256 = true := by simp [inB]; omega
  have c5 : ws.any (dT (tallN a u n)) = false := by
    rw [List.any_eq_false]; intro s hs
    have := h.all s hs
    simp [dT]; omega
  simp only [c1, c2, c3, Int.toNat_natCast, c5]
  simp; omega
theorem sameB_refl (xs : List ByteArray) : sameB xs xs = true := sameB_true fun i _ => by simp [neAt]
end Go.Ae.C3
