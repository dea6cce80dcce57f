/- What is recovered is what was cut. -/
import Derived.Test.YtnfghcflpnlbiaaC3ME
namespace Go.Ae.C3
set_option linter.unusedSimpArgs false
set_option linter.unusedVariables false
def byt (l : List UInt8) (t : Nat) : Nat := (l.getD t 0).toNat
theorem byt_lt (l : List UInt8) (t : Nat) : byt l t < 256 := UInt8.toNat_lt _
theorem byt_ext {l r : List UInt8} (h : l.length = r.length) (hb : ∀ t, t < l.length → byt l t = byt r t) : l = r := by
  apply List.ext_getElem h
  intro t h1 h2
  have := hb t h1
  simp only [byt, List.getD_eq_getElem?_getD, List.getElem?_eq_getElem h1, List.getElem?_eq_getElem h2, Option.getD_some] at this
  exact UInt8.toNat_inj.1 this
theorem sm_byt {l r : List UInt8} {t : Nat} (h : l.length = r.length) (ht : t < l.length) : byt (sm l r) t = byt l t ^^^ byt r t := by
  have h2 : t < r.length := by omega
  simp [byt, sm, List.getD_eq_getElem?_getD, List.getElem?_zipWith, List.getElem?_eq_getElem ht, List.getElem?_eq_getElem h2]
theorem scl_byt {c : Nat} {l : List UInt8} {t : Nat} (hc : c < 256) (ht : t < l.length) : byt (scl c l) t = gm c (byt l t) := by
  have h := gm_lt (b := (l[t]).toNat) hc
  simp [byt, scl, List.getD_eq_getElem?_getD, List.getElem?_eq_getElem ht]
  omega
theorem acc_byt {an : List Nat} {w n i t : Nat} {ls : List (List UInt8)} (hl : ∀ l ∈ ls, l.length = n) (ha : ∀ x ∈ an, x < 256) (ht : t < n) : ∀ k, k ≤ ls.length → byt (acc an w ls n i k) t = dot (fun j => an.getD (i * w + j) 0) (fun j => byt (ls.getD j []) t) k
  | 0, _ => by simp [acc, dot, byt, List.getD_eq_getElem?_getD, ht]
  | k + 1, hk => by
    have ih := acc_byt (i := i) (w := w) hl ha ht k (by omega)
    have h1 := acc_len (i := i) (an := an) (w := w) hl k (by omega)
    have h2 : (ls.getD k []).length = n := by
      rw [List.getD_eq_getElem?_getD, List.getElem?_eq_getElem (by omega)]
      exact hl _ (List.getElem_mem _)
    have h3 : (scl (an.getD (i * w + k) 0) (ls.getD k [])).length = n := by simp [scl]; simpa using h2
    rw [acc, sm_byt (by omega) (by omega), ih, scl_byt (getD_lt ha _) (by omega)]
    rfl
theorem pcs_get {an : List Nat} {h w n p : Nat} {ls : List (List UInt8)} (hp : p < h) : (pcs an h w ls n).getD p [] = acc an w ls n p w := by
  simp [pcs, List.getD_eq_getElem?_getD, hp]
theorem recD_orig {a b : Nat} {l : List UInt8} {ws : List GShard} (H : HaveF a b (psz a l.length) ws) (h : a ≤ ws.length) (hsh : ∀ i (hi : i < ws.length), ws[i].Bytes = B ((shs a b l).getD ws[i].Pos.toNat [])) : recD a b (psz a l.length) ws = dat a l a := by
  obtain ⟨p, hp, hinv⟩ := invH_some H h
  have h1 := H.a1
  have h2 := H.b1
  have hkm : a + b ≤ 8 := by omega
  have zb : ∀ x ∈ fl a p.2, x < 256 := fl_lt hinv.b2
  simp only [recD, hp]
  have hda := dat_all (K := a) (l := l) h1.1
  have hdl : (dat a l a).length = a := by simp [dat]
  unfold dat
  rw [show pcs (fl a p.2) a a (bL a ws) (psz a l.length) = (List.range a).map fun r => acc (fl a p.2) a (bL a ws) (psz a l.length) r a from rfl]
  refine List.map_congr_left fun r hr => ?_
  have hr' := List.mem_range.1 hr
  have hl1 := acc_len (an := fl a p.2) (w := a) (i := r) (bL_all H) a (by rw [bL_len h]; exact Nat.le_refl _)
  have hl2 := cut_len (l := l) h1.1 hr'
  refine byt_ext (by rw [hl1, hl2]) fun t ht => ?_
  rw [hl1] at ht
  rw [acc_byt (bL_all H) zb ht a (by rw [bL_len h]; exact Nat.le_refl _)]
  let x : Nat → Nat := fun j => byt ((dat a l a).getD j []) t
  let y : Nat → Nat := fun j => byt ((bL a ws).getD j []) t
  have hxr : byt (cutAt (psz a l.length) (pad a l) r) t = x r := by
    simp [x, dat, List.getD_eq_getElem?_getD, hr']
  rw [hxr]
  have e1 : dot (fun j => (fl a p.2).getD (r * a + j) 0) y a = dot (p.2 r) y a := dot_congr a (fun j hj => fl_get hr' hj) (fun _ _ => rfl)
  rw [e1]
  have hsol : Sol a (unfl a (rwsAt (gN a b) a (pL a ws)), idM) x y := by
    intro i hi
    rw [show dot ((unfl a (rwsAt (gN a b) a (pL a ws)), idM).2 i) y a = dot (idM i) y a from rfl, dot_unit (i := i) a (fun _ _ => rfl) (fun j _ => byt_lt _ _), if_pos hi]
    have hiw : i < ws.length := by omega
    have hpos := H.pos i hiw
    have hb1 : (bL a ws).getD i [] = (shs a b l).getD ws[i].Pos.toNat [] := by
      have hlt : i < (bL a ws).length := by rw [bL_len h]; exact hi
      rw [List.getD_eq_getElem?_getD, List.getElem?_eq_getElem hlt]
      simp only [bL, Option.getD_some, List.getElem_map, List.getElem_take]
      rw [hsh i hiw, B_list]
    have hpl : (pL a ws).getD i 0 = ws[i].Pos.toNat := by
      have hlt : i < (pL a ws).length := by rw [pL_len h]; exact hi
      rw [List.getD_eq_getElem?_getD, List.getElem?_eq_getElem hlt]
      simp only [pL, Option.getD_some, List.getElem_map, List.getElem_take]
    show dot (unfl a (rwsAt (gN a b) a (pL a ws)) i) x a = byt ((bL a ws).getD i []) t
    rw [hb1, shs, pcs_get (by omega), acc_byt hda (gN_lt hkm) ht a (by rw [hdl]; exact Nat.le_refl _)]
    refine dot_congr a (fun j hj => ?_) (fun _ _ => rfl)
    unfold unfl
    rw [rwsAt_get gN_len (pL_lt H) (by rw [pL_len h]; exact hi) hj, hpl]
  rw [sol_full hinv (fun j _ => byt_lt _ _)] at hsol
  exact (hsol r hr').symm
theorem cuts_flat (q : Nat) (p : List UInt8) : ∀ k, ((List.range k).map (cutAt q p)).flatten = p.take (k * q)
  | 0 => by simp
  | k + 1 => by
    rw [List.range_succ, List.map_append, List.flatten_append, cuts_flat q p k, Nat.add_mul, Nat.one_mul, List.take_add]
    simp [cutAt]
theorem dat_body {a : Nat} {l : List UInt8} (ha : 1 ≤ a) : (dat a l a).flatten.take l.length = l := by
  unfold dat
  rw [cuts_flat]
  have h1 := pad_len (l := l) ha
  have h2 : (pad a l).take (a * psz a l.length) = pad a l := List.take_of_length_le (by rw [h1, Nat.mul_comm]; exact Nat.le_refl _)
  rw [h2]
  simp [pad]
theorem bodyD_orig {a b : Nat} {l : List UInt8} {ws : List GShard} (H : HaveF a b (psz a l.length) ws) (h : a ≤ ws.length) (hsh : ∀ i (hi : i < ws.length), ws[i].Bytes = B ((shs a b l).getD ws[i].Pos.toNat [])) : bodyD a b l.length ws = l := by
  unfold bodyD
  rw [recD_orig H h hsh, dat_body H.a1.1]
theorem anewD_orig {a b : Nat} {l : List UInt8} {ws : List GShard} (H : HaveF a b (psz a l.length) ws) (h : a ≤ ws.length) (hsh : ∀ i (hi : i < ws.length), ws[i].Bytes = B ((shs a b l).getD ws[i].Pos.toNat [])) : anewD a b (psz a l.length) ws = shs a b l := by
  unfold anewD shs
  rw [recD_orig H h hsh]
end Go.Ae.C3
namespace Go.Ae.C3
set_option linter.unusedSimpArgs false
set_option linter.unusedVariables false
theorem l04Draw (l : List UInt8) (p : Nat) (sd : Int) (hp : p ≤ 1000) (k lv : Nat) (E : List Heap) (S : Nat) (hlv : lv < E.length) (hg : (hat E lv).get S = some (some (srcB l p sd))) :
    call code (k + 3) 83 [.ptr (lv + 1) S 0 [] 0 0] E = some ⟨.agg [.int .i64 (1 + nxV l p sd % 4 : Nat), .int .i64 (nxV l (p + 1) (nxS l p sd) % 4 : Nat)], [], E.modify lv fun h => h.set S (some (srcB l (p + 1 + 1) (nxS l (p + 1) (nxS l p sd))))⟩ := by
  refine call_run rfl fn83 rfl ?_
  have x1 := fun k l0 => pick l p 4 sd (by omega) (by omega) k (lv + 1) (l0 :: E) S (by simp; omega) (by simpa using hg)
  have x2 := fun k l0 => pick l (p + 1) 4 (nxS l p sd) (by omega) (by omega) k (lv + 1) (l0 :: E.modify lv fun h => h.set S (some (srcB l (p + 1) (nxS l p sd)))) S (by simp; exact hlv) (by rw [hat_cons, hat_modify hlv, get_set, if_pos rfl])
  have c4 : ((4 : Nat) : Int) = 4 := rfl
  rw [c4] at x1 x2
  have hr : nxV l p sd % 4 < 4 := Nat.mod_lt _ (by omega)
  generalize nxV l p sd % 4 = r at *
  generalize nxV l (p + 1) (nxS l p sd) % 4 = r2 at *
  have e1 : IntKind.wrap .i64 (1 + (r : Int)) = ((1 + r : Nat) : Int) := by rw [wrap64 ⟨by omega, by omega⟩]; omega
  generalize 1 + r = r1 at *
  simp [F83, rcall134, x1, x2, e1, modify_modify', set_set_same]
theorem a8Code (l : List UInt8) : ∃ a b : Nat, (1 ≤ a ∧ a ≤ 4) ∧ b ≤ 3 ∧ ∀ k, call code (k + 4) 30 [.rd true (rws encU l)] [] = some ⟨.agg [.int .i64 a, .int .i64 b], [], []⟩ := by
  have h1 := fun k => l00From k l
  have h2 := fun k lv E S hlv hg => l04Draw l 0 0 (by omega) k lv E S hlv hg
  have r1 : nxV l 0 0 % 4 < 4 := Nat.mod_lt _ (by omega)
  have r2 : nxV l (0 + 1) (nxS l 0 0) % 4 < 4 := Nat.mod_lt _ (by omega)
  refine ⟨1 + nxV l 0 0 % 4, nxV l (0 + 1) (nxS l 0 0) % 4, by omega, by omega, fun k => ?_⟩
  refine call_run rfl fn30 rfl ?_
  generalize nxS l (0 + 1) (nxS l 0 0) = s2 at *
  generalize nxV l (0 + 1) (nxS l 0 0) % 4 = y at *
  generalize 1 + nxV l 0 0 % 4 = x at *
  have c0 : ((0 : Nat) : Int) = 0 := rfl
  simp only [srcB, c0] at h1 h2
  simp [F30, rcall82, h1, rcall83, h2]
theorem subs_inc : ∀ (n : Nat) (s : List Nat), s ∈ subs n → ∀ i j (hi : i < j) (hj : j < s.length), s[i] < s[j]
  | 0, s, h, i, j, hi, hj => by simp [subs] at h; subst h; simp at hj
  | n + 1, s, h, i, j, hi, hj => by
    unfold subs at h
    rcases List.mem_append.1 h with h | h
    · exact subs_inc n s h i j hi hj
    · obtain ⟨t, ht, rfl⟩ := List.mem_map.1 h
      by_cases hjt : j < t.length
      · rw [List.getElem_append_left (by omega), List.getElem_append_left hjt]
        exact subs_inc n t ht i j hi hjt
      · have : j = t.length := by simp at hj; omega
        subst this
        rw [List.getElem_append_left (by omega), List.getElem_append_right (Nat.le_refl _)]
        simp only [Nat.sub_self, List.getElem_cons_zero]
        exact subs_lt n ht _ (List.getElem_mem _)
/-- The shards at some places. -/
def hvL (A : List (List UInt8)) (ps : List Nat) : List GShard := ps.map fun (p : Nat) => ⟨(p : Int), B (A.getD p [])⟩
theorem hvL_len (A : List (List UInt8)) (ps : List Nat) : (hvL A ps).length = ps.length := by simp [hvL]
theorem hvL_take (A : List (List UInt8)) (ps : List Nat) (n : Nat) : (hvL A ps).take n = hvL A (ps.take n) := by simp [hvL, List.map_take]
theorem hvL_get {A : List (List UInt8)} {ps : List Nat} {i : Nat} (h : i < (hvL A ps).length) : (hvL A ps)[i] = ⟨((ps[i]'(by rwa [hvL_len] at h) : Nat) : Int), B (A.getD (ps[i]'(by rwa [hvL_len] at h)) [])⟩ := by simp [hvL]
theorem hvL_haveL {a b q : Nat} {A : List (List UInt8)} {ps : List Nat} (hinc : ∀ i j (hi : i < j) (hj : j < ps.length), ps[i] < ps[j]) (hlt : ∀ p ∈ ps, p < a + b) (hA : ∀ p ∈ ps, (A.getD p []).length = q) : haveL a b q (hvL A ps) = true := by
  refine haveL_true fun i hi => ?_
  have hi' : i < ps.length := by rwa [hvL_len] at hi
  have h1 := hlt _ (List.getElem_mem hi')
  have h2 := hA _ (List.getElem_mem hi')
  have hx : shAt (hvL A ps) i = ⟨((ps[i] : Nat) : Int), B (A.getD ps[i] [])⟩ := by
    rw [shAt, List.getD_eq_getElem?_getD, List.getElem?_eq_getElem hi, Option.getD_some, hvL_get hi]
  unfold hgood
  rw [hx]
  simp only [Bool.and_eq_true]
  refine ⟨⟨by simp [inB]; omega, ?_⟩, ?_⟩
  · by_cases h0 : i = 0
    · subst h0; simp
    · have hi1 : i - 1 < (hvL A ps).length := by omega
      have hi1' : i - 1 < ps.length := by omega
      have hy : shAt (hvL A ps) (i - 1) = ⟨((ps[i - 1] : Nat) : Int), B (A.getD ps[i - 1] [])⟩ := by
        rw [shAt, List.getD_eq_getElem?_getD, List.getElem?_eq_getElem hi1, Option.getD_some, hvL_get hi1]
      rw [hy]
      have := hinc (i - 1) i (by omega) hi'
      simp; right; omega
  · generalize A.getD ps[i] [] = t at *
    simp [B_size, h2]
theorem hvL_bytes {a b q : Nat} {A : List (List UInt8)} {ps : List Nat} : ∀ i (hi : i < (hvL A ps).length), (hvL A ps)[i].Bytes = B (A.getD (hvL A ps)[i].Pos.toNat []) := fun i hi => by
  rw [hvL_get hi]; simp
theorem shs_all {a b : Nat} {l : List UInt8} (h1 : 1 ≤ a) : ∀ x ∈ shs a b l, x.length = psz a l.length := by
  unfold shs
  exact pcs_all (dat_all h1) (by simp [dat])
theorem hv_next {A : List (List UInt8)} {ps : List Nat} {i : Nat} (h : i < ps.length) : rws GShard.enc ((hvL A ps).take i) ++ [[.int .i64 ((ps[i] : Nat) : Int), .str (B (A.getD ps[i] []))]] = rws GShard.enc ((hvL A ps).take (i + 1)) := by
  rw [List.take_succ_eq_append_getElem (by rw [hvL_len]; exact h), rws_app, hvL_get]; rfl
set_option maxHeartbeats 8000000 in
theorem a8Have (k : Nat) (A : List (List UInt8)) (ps : List Nat) (hp : ∀ p ∈ ps, p < A.length) (hn : ps.length ≤ 1000) (hA : A.length ≤ 1000) :
    call code (k + 1) 34 [.rd true (rowsS A), .rd true (rowsZ (castL ps))] [] = some ⟨.tup [.sl 0 0 0 [] 0 ps.length, .bool true], [⟨0, 2, false, true, rws GShard.enc (hvL A ps)⟩], []⟩ := by
  refine call_run rfl fn34 rfl ?_
  have hpl : (rowsZ (castL ps)).length = ps.length := by rw [rowsZ_len, castL_len]
  have hAl : (rowsS A).length = A.length := rowsS_len A
  simp [F34]
  refine RunC_loop (fun i : Nat => ⟨tm 39 [(0, .rd true (rowsS A)), (1, .rd true (rowsZ (castL ps))), (6, .sl 0 65536 0 [] 0 i), (7, .int .i64 i)], [(0, some ⟨0, 2, false, true, []⟩), (65536, some ⟨0, 2, false, true, rws GShard.enc ((hvL A ps).take i)⟩)], []⟩)
    (fun i => i ≤ ps.length) (fun i => ps.length - i) 0 (Nat.zero_le _) (by simp; omega) (by simp [tm]) fun i hi _ => ?_
  by_cases hlt : i < ps.length
  · have hs := idx_succ' hlt (by omega)
    have hpi := hp _ (List.getElem_mem hlt)
    have hg : ∀ h, (rowsZ (castL ps))[i]'h = [.int .i64 ((ps[i] : Nat) : Int)] := fun h => by simp [rowsZ, castL]
    have hg2 : ∀ h : ps[i] < (rowsS A).length, (rowsS A)[ps[i]]'h = [.str (B (A.getD ps[i] []))] := fun h => rowsS_at hpi h
    have happ := hv_next (A := A) hlt
    have hge : decide ((A.length : Int) ≤ (ps[i] : Int)) = false := by simp; omega
    have hge' : ¬ A.length ≤ ps[i] := by omega
    have hrl : (rws GShard.enc ((hvL A ps).take i)).length = i := by rw [rws_len, List.length_take, hvL_len]; omega
    generalize B (A.getD ps[i] []) = T at *
    generalize ps[i] = p at *
    generalize hR' : rws GShard.enc ((hvL A ps).take (i + 1)) = R' at *
    generalize rws GShard.enc ((hvL A ps).take i) = R at *
    generalize rowsS A = AA at *
    simp [tm, hlt, hs, hpl, hg, hAl, hge, hge', hpi, hg2, evalW, source, hrl, happ]
    exact ⟨⟨by omega, by omega⟩, i + 1, by omega, by omega, by simp, by rw [hR']⟩
  · have : i = ps.length := by omega
    subst this
    have hT : (hvL A ps).take ps.length = hvL A ps := List.take_of_length_le (by rw [hvL_len]; exact Nat.le_refl _)
    have hrl : (rws GShard.enc (hvL A ps)).length = ps.length := by rw [rws_len, hvL_len]
    simp [tm, hpl, hT, hrl]
/-- Too few on hand. -/
theorem bodyFew (k : Nat) {a b n : Nat} {ws : List GShard} (hb : haveB a b n ws = true) (h : ws.length < a) (hl : ws.length ≤ 1048576) :
    call code (k + 8) 20 [.agg [.int .i64 a, .int .i64 b], .int .i64 n, .rd true (rws GShard.enc ws)] [] = some (resT ByteArray.empty 8) := by
  have h1 := fun k => haveCode k a b n ws hl
  have hcd : hcode a b n ws = 8 := by unfold hcode; rw [hb, if_pos rfl, if_pos (by simp; omega)]
  rw [hcd] at h1
  refine call_run rfl fn20 rfl ?_
  simp [F20, rcall73, h1, resT]
end Go.Ae.C3
