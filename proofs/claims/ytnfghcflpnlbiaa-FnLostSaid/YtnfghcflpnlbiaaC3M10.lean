/- Rows of the code's matrix by the places on hand: the reference's; what is on hand is a choice of rows. -/
import Derived.Test.YtnfghcflpnlbiaaC3M6
import Derived.Test.YtnfghcflpnlbiaaC3M9
namespace Go.Ae.C3
set_option linter.unusedSimpArgs false
set_option linter.unusedVariables false
def hcode (K M sz : Int) (ws : List GShard) : Int := if haveB K M sz ws = true then (if decide ((ws.length : Int) < K) = true then 8 else 0) else 1
set_option maxHeartbeats 8000000 in
theorem l03Rows (k : Nat) (h w : Nat) (an : List Nat) (ps : List Nat) (hh : h ≤ 8) (hw : w ≤ 8) (la : an.length = h * w) (hp : ∀ p ∈ ps, p < h) (hn : ps.length ≤ 8) :
    call code (k + 2) 150 [.agg [.int .i64 h, .int .i64 w, .rd true (rowsZ (castL an))], .rd true (rowsZ (castL ps))] [] = some ⟨.agg [.int .i64 ps.length, .int .i64 w, .sl 0 0 0 [] 0 (rwsAt an w ps).length], [⟨0, 1, false, true, rowsZ (castL (rwsAt an w ps))⟩], []⟩ := by
  refine call_run rfl fn150 rfl ?_
  have hpl : (rowsZ (castL ps)).length = ps.length := by rw [rowsZ_len, castL_len]
  have hnil : rowsZ (castL (rwsAt an w (ps.take 0))) = [] := by simp [rwsAt, castL, rowsZ]
  simp [F150, hpl]
  refine RunC_loop (fun i : Nat => ⟨tm 41 [(1, .rd true (rowsZ (castL ps))), (2, .ptr 0 0 0 [] 0 0), (4, .ptr 0 256 0 [] 0 0), (5, .ptr 0 66816 0 [] 0 0), (6, .int .i64 i)],
      [(0, some ⟨0, 3, true, false, [[.int .i64 h, .int .i64 w, .rd true (rowsZ (castL an))]]⟩), (256, some ⟨0, 3, true, false, [[.int .i64 0, .int .i64 0, .sl 0 259 0 [] 0 0]]⟩), (259, some ⟨0, 1, false, true, []⟩), (66816, some ⟨0, 3, true, false, [[.int .i64 ps.length, .int .i64 w, .sl 0 67075 0 [] 0 (rwsAt an w (ps.take i)).length]]⟩), (66819, some ⟨0, 1, false, true, []⟩), (67075, some ⟨0, 1, false, true, rowsZ (castL (rwsAt an w (ps.take i)))⟩)], []⟩)
    (fun i => i ≤ ps.length) (fun i => ps.length - i) 0 (Nat.zero_le _) (by simp; omega) (by simp [tm, rwsAt, castL, rowsZ]) fun i hi _ => ?_
  by_cases hlt : i < ps.length
  · have hs := idx_succ' hlt (by omega)
    have hpi : ps[i] < h := hp _ (List.getElem_mem hlt)
    have hg : ∀ h, (rowsZ (castL ps))[i]'h = [.int .i64 ((ps[i] : Nat) : Int)] := fun h => by simp [rowsZ, castL]
    have r1 : (ps[i] + 1) * w ≤ h * w := Nat.mul_le_mul_right _ hpi
    have r0 : ps[i] * w ≤ (ps[i] + 1) * w := Nat.mul_le_mul_right _ (Nat.le_succ _)
    have r2 : h * w ≤ 8 * 8 := Nat.mul_le_mul hh hw
    have hprt := prt_rows an (ps[i] * w) ((ps[i] + 1) * w)
    have hnx := rwsAt_next (an := an) (w := w) hlt
    have hcl : (prt an (ps[i] * w) ((ps[i] + 1) * w)).length = w := by rw [prt_len (by rw [la]; exact r1), Nat.add_mul]; omega
    have hl0 := rwsAt_len (ps := ps.take i) la (fun p hq => hp p (List.mem_of_mem_take hq))
    have hb : (ps.take i).length * w ≤ 8 * 8 := Nat.mul_le_mul (by simp; omega) hw
    have happ : rowsZ (castL (rwsAt an w (ps.take i))) ++ rowsZ (castL (prt an (ps[i] * w) ((ps[i] + 1) * w))) = rowsZ (castL (rwsAt an w (ps.take (i + 1)))) := by rw [hnx]; simp [rowsZ, castL]
    have hnl : (rwsAt an w (ps.take (i + 1))).length = (rwsAt an w (ps.take i)).length + w := by rw [hnx, List.length_append, hcl]
    have hrl1 : (rowsZ (castL (rwsAt an w (ps.take i)))).length = (rwsAt an w (ps.take i)).length := by rw [rowsZ_len, castL_len]
    have hrl2 : (rowsZ (castL (prt an (ps[i] * w) ((ps[i] + 1) * w)))).length = w := by rw [rowsZ_len, castL_len, hcl]
    have hrlA : (rowsZ (castL an)).length = h * w := by rw [rowsZ_len, castL_len, la]
    have hallA : ∀ x ∈ rowsZ (castL an), x.length = 1 := by
      intro x hx
      simp only [rowsZ, List.mem_map] at hx
      obtain ⟨a, _, rfl⟩ := hx
      rfl
    have hall : ∀ x ∈ rowsZ (castL (prt an (ps[i] * w) ((ps[i] + 1) * w))), x.length = 1 := by
      intro x hx
      simp only [rowsZ, List.mem_map] at hx
      obtain ⟨a, _, rfl⟩ := hx
      rfl
    have m1 : IntKind.wrap .i64 ((ps[i] : Int) * (w : Int)) = ((ps[i] * w : Nat) : Int) := by rw [show (ps[i] : Int) * (w : Int) = ((ps[i] * w : Nat) : Int) by simp, wrap64 ⟨by omega, by omega⟩]
    have m2 : IntKind.wrap .i64 ((ps[i] : Int) + 1) = ((ps[i] + 1 : Nat) : Int) := by rw [wrap64 ⟨by omega, by omega⟩]; omega
    have m3 : IntKind.wrap .i64 (((ps[i] + 1 : Nat) : Int) * (w : Int)) = (((ps[i] + 1) * w : Nat) : Int) := by rw [show ((ps[i] + 1 : Nat) : Int) * (w : Int) = (((ps[i] + 1) * w : Nat) : Int) by simp, wrap64 ⟨by omega, by omega⟩]
    generalize rowsZ (castL (prt an (ps[i] * w) ((ps[i] + 1) * w))) = C at *
    generalize (ps[i] + 1) * w = e2 at *
    generalize ps[i] * w = e1 at *
    generalize hps1 : ps[i] + 1 = p1 at *
    generalize ps[i] = p at *
    generalize hR' : rowsZ (castL (rwsAt an w (ps.take (i + 1)))) = R' at *
    generalize hL' : (rwsAt an w (ps.take (i + 1))).length = L' at *
    generalize rowsZ (castL (rwsAt an w (ps.take i))) = R at *
    generalize (rwsAt an w (ps.take i)).length = L at *
    generalize rowsZ (castL an) = RA at *
    generalize h * w = hwv at *
    have le1 : ((e2 : Nat) : Int) ≤ (hwv : Int) := by omega
    have le2 : ((e1 : Nat) : Int) ≤ (e2 : Int) := by omega
    simp [tm, hlt, hs, hpl, hg, m1, m2, m3, hrlA, r0, r1, le1, le2, hprt, source, evalW, hrl1, hrl2, happ]
    exact ⟨hallA, hall, ⟨by omega, by omega⟩, i + 1, by omega, by omega, by simp, by rw [hL', hnl], by rw [hR']⟩
  · have : i = ps.length := by omega
    subst this
    simp [tm, hpl]
end Go.Ae.C3
namespace Go.Ae.C3
set_option linter.unusedSimpArgs false
set_option linter.unusedVariables false
theorem subs_of : ∀ (n : Nat) (l : List Nat), (∀ i j (hi : i < j) (hj : j < l.length), l[i] < l[j]) → (∀ x ∈ l, x < n) → l ∈ subs n
  | 0, l, _, h => by
    cases l with
    | nil => simp [subs]
    | cons x r => have := h x (by simp); omega
  | n + 1, l, h1, h2 => by
    unfold subs
    rcases List.eq_nil_or_concat l with rfl | ⟨r, x, rfl⟩
    · exact List.mem_append.2 (.inl (subs_of n [] (fun i j _ hj => by simp at hj) (fun x hx => by simp at hx)))
    · rw [List.concat_eq_append] at h1 h2 ⊢
      have hr : ∀ i j (hi : i < j) (hj : j < r.length), r[i] < r[j] := fun i j hi hj => by
        have := h1 i j hi (by simp; omega)
        rw [List.getElem_append_left (by omega), List.getElem_append_left (by omega)] at this; exact this
      have hx := h2 x (by simp)
      have hrx : ∀ y ∈ r, y < x := fun y hy => by
        obtain ⟨i, hi, rfl⟩ := List.getElem_of_mem hy
        have := h1 i r.length hi (by simp)
        rw [List.getElem_append_left hi, List.getElem_append_right (Nat.le_refl _)] at this
        simpa using this
      by_cases he : x = n
      · subst he
        exact List.mem_append.2 (.inr (List.mem_map.2 ⟨r, subs_of x r hr hrx, rfl⟩))
      · refine List.mem_append.2 (.inl (subs_of n (r ++ [x]) h1 fun y hy => ?_))
        rcases List.mem_append.1 hy with hy | hy
        · have := hrx y hy; omega
        · simp at hy; omega
/-- The places and the bytes of the first of what is on hand. -/
def pL (a : Nat) (ws : List GShard) : List Nat := (ws.take a).map fun s => s.Pos.toNat
def bL (a : Nat) (ws : List GShard) : List (List UInt8) := (ws.take a).map fun s => s.Bytes.data.toList
structure HaveF (a b q : Nat) (ws : List GShard) : Prop where
  a1 : 1 ≤ a ∧ a ≤ 4
  b1 : b ≤ 3
  pos : ∀ i (h : i < ws.length), 0 ≤ ws[i].Pos ∧ ws[i].Pos < (a + b : Nat)
  inc : ∀ i j (hi : i < j) (hj : j < ws.length), ws[i].Pos < ws[j].Pos
  len : ∀ i (h : i < ws.length), ws[i].Bytes.size = q
theorem haveF {a b q : Nat} {ws : List GShard} (h1 : 1 ≤ a ∧ a ≤ 4) (h2 : b ≤ 3) (h : haveL a b q ws = true) : HaveF a b q ws := by
  unfold haveL at h
  rw [List.all_eq_true] at h
  have hg : ∀ i (hi : i < ws.length), (0 ≤ ws[i].Pos ∧ ws[i].Pos < (a + b : Nat)) ∧ (0 < i → (shAt ws (i - 1)).Pos < ws[i].Pos) ∧ ws[i].Bytes.size = q := fun i hi => by
    have := h i (List.mem_range.2 hi)
    have hx : shAt ws i = ws[i] := by simp [shAt, List.getD_eq_getElem?_getD, hi]
    simp only [hgood, hx, Bool.and_eq_true] at this
    obtain ⟨⟨k1, k2⟩, k3⟩ := this
    simp [inB] at k1 k2 k3
    exact ⟨by omega, fun h0 => by rcases k2 with k2 | k2 <;> omega, by omega⟩
  have hstep : ∀ i (hi : i + 1 < ws.length), ws[i].Pos < ws[i + 1].Pos := fun i hi => by
    have := (hg (i + 1) hi).2.1 (by omega)
    have hx : shAt ws i = ws[i] := by simp [shAt, List.getD_eq_getElem?_getD, show i < ws.length by omega]
    simpa [hx] using this
  refine ⟨h1, h2, fun i hi => (hg i hi).1, fun i j hij hj => ?_, fun i hi => (hg i hi).2.2⟩
  obtain ⟨d, rfl⟩ : ∃ d, j = i + 1 + d := ⟨j - (i + 1), by omega⟩
  induction d with
  | zero => exact hstep i hj
  | succ d ih =>
    have h1 := ih (by omega) (by omega)
    have h2 := hstep (i + 1 + d) (by omega)
    have e : i + 1 + (d + 1) = i + 1 + d + 1 := by omega
    simp only [e] at hj ⊢
    omega
theorem pL_len {a : Nat} {ws : List GShard} (h : a ≤ ws.length) : (pL a ws).length = a := by simp [pL]; omega
theorem bL_len {a : Nat} {ws : List GShard} (h : a ≤ ws.length) : (bL a ws).length = a := by simp [bL]; omega
theorem pL_lt {a b q : Nat} {ws : List GShard} (H : HaveF a b q ws) : ∀ p ∈ pL a ws, p < a + b := fun p hp => by
  simp only [pL, List.mem_map] at hp
  obtain ⟨s, hs, rfl⟩ := hp
  obtain ⟨i, hi, rfl⟩ := List.getElem_of_mem (List.mem_of_mem_take hs)
  have := H.pos i hi
  omega
theorem pL_cast {a b q : Nat} {ws : List GShard} (H : HaveF a b q ws) : castL (pL a ws) = (ws.take a).map GShard.Pos := by
  unfold castL pL
  rw [List.map_map]
  refine List.map_congr_left fun s hs => ?_
  obtain ⟨i, hi, rfl⟩ := List.getElem_of_mem (List.mem_of_mem_take hs)
  have := H.pos i hi
  simp; omega
theorem pL_subs {a b q : Nat} {ws : List GShard} (H : HaveF a b q ws) : pL a ws ∈ subs 8 := by
  refine subs_mono (n := a + b) 8 (by have := H.a1; have := H.b1; omega) _ (subs_of _ _ (fun i j hi hj => ?_) (pL_lt H))
  have hl : (pL a ws).length ≤ ws.length := by simp [pL]; omega
  have h1 := H.inc i j hi (by omega)
  have h2 := H.pos i (by omega)
  have h3 := H.pos j (by omega)
  simp only [pL, List.getElem_map, List.getElem_take]
  omega
theorem bL_all {a b q : Nat} {ws : List GShard} (H : HaveF a b q ws) : ∀ l ∈ bL a ws, l.length = q := fun l hl => by
  simp only [bL, List.mem_map] at hl
  obtain ⟨s, hs, rfl⟩ := hl
  obtain ⟨i, hi, rfl⟩ := List.getElem_of_mem (List.mem_of_mem_take hs)
  have := H.len i hi
  simpa using this
theorem bL_rows {a : Nat} {ws : List GShard} : rowsS (bL a ws) = rws encT ((ws.take a).map GShard.Bytes) := by
  simp only [rowsS, bL, rws, List.map_map]
  exact List.map_congr_left fun s hs => by simp [encT, B_eta]
theorem unfl_bnd {w : Nat} {an : List Nat} (h : ∀ x ∈ an, x < 256) : bnd w (unfl w an) := fun i j _ _ => getD_lt h _
/-- The inverse of the rows on hand. -/
def invH (a b : Nat) (ws : List GShard) : Option (Mx × Mx) := runS a (unfl a (rwsAt (gN a b) a (pL a ws)), idM) a
theorem invH_some {a b q : Nat} {ws : List GShard} (H : HaveF a b q ws) (h : a ≤ ws.length) : ∃ p, invH a b ws = some p ∧ Inv a a (unfl a (rwsAt (gN a b) a (pL a ws)), idM) p := by
  have h1 := H.a1
  have h2 := H.b1
  have hkm : a + b ≤ 8 := by omega
  have yb : ∀ x ∈ rwsAt (gN a b) a (pL a ws), x < 256 := by
    intro x hx
    simp only [rwsAt, List.mem_flatMap] at hx
    obtain ⟨p, _, hx⟩ := hx
    exact gN_lt hkm x (List.mem_of_mem_drop hx |> List.mem_of_mem_take)
  exact runS_rows (by omega) (pL_subs H) (pL_len h) (fun i j hi hj => rows_G hkm (pL_lt H) (pL_len h) hi hj) (unfl_bnd yb)
def recD (a b q : Nat) (ws : List GShard) : List (List UInt8) := match invH a b ws with
  | some p => pcs (fl a p.2) a a (bL a ws) q
  | none => []
theorem recD_len {a b q : Nat} {ws : List GShard} (H : HaveF a b q ws) (h : a ≤ ws.length) : (recD a b q ws).length = a := by
  obtain ⟨p, hp, _⟩ := invH_some H h
  simp [recD, hp, pcs_len]
end Go.Ae.C3
namespace Go.Ae.C3
set_option linter.unusedSimpArgs false
set_option linter.unusedVariables false
theorem invP (k n : Nat) (an : List Nat) (hn : 1 ≤ n ∧ n ≤ 8) (hl : an.length = n * n) (ha : ∀ x ∈ an, x < 256) {p : Mx × Mx} (hr : runS n (unfl n an, idM) n = some p) :
    (∀ k, call code (k + 6) 128 [.agg [.int .i64 n, .int .i64 n, .rd true (rowsZ (castL an))]] [] = some ⟨.tup [.agg [.int .i64 n, .int .i64 n, .sl 0 0 0 [] 0 (n * n)], .bool true], [⟨0, 1, false, true, rowsZ (castL (fl n p.2))⟩], []⟩) ∧
    (∀ k, call code (k + 5) 149 [.agg [.int .i64 n, .int .i64 n, .rd true (rowsZ (castL an))]] [] = some ⟨.tup [.agg [.int .i64 n, .int .i64 n, .sl 0 0 0 [] 0 (n * n)], .bool true], [⟨0, 1, false, true, rowsZ (castL (fl n p.2))⟩], []⟩) := by
  have hM := unfl_bnd (w := n) ha
  have hrr : rowsZ (castL an) = rowsM n (unfl n an) := by rw [rowsM, fl_unfl hl]
  have i1 := fun k => inverted k n (unfl n an) hn hM
  have i2 := fun k => l03Inv k n (unfl n an) hn hM
  rw [both_inv hM, hr] at i1
  rw [hr] at i2
  rw [hrr]
  simp only [resInv, mb] at i1 i2
  exact ⟨i1, i2⟩
theorem takeS {l : List GShard} {i : Nat} (h : i < l.length) : rws encI ((l.take i).map GShard.Pos) ++ [[.int .i64 l[i].Pos]] = rws encI ((l.take (i + 1)).map GShard.Pos) := by
  rw [List.take_succ_eq_append_getElem h, List.map_append, rws_app]; rfl
theorem takeB {l : List GShard} {i : Nat} (h : i < l.length) : rws encT ((l.take i).map GShard.Bytes) ++ [[.str l[i].Bytes]] = rws encT ((l.take (i + 1)).map GShard.Bytes) := by
  rw [List.take_succ_eq_append_getElem h, List.map_append, rws_app]; rfl
set_option maxHeartbeats 16000000 in
theorem recovered (k : Nat) {a b q : Nat} {ws : List GShard} (H : HaveF a b q ws) (h : a ≤ ws.length) (hq : q ≤ 1048576) :
    call code (k + 7) 75 [.agg [.int .i64 a, .int .i64 b], .rd true (rws GShard.enc ws)] [] = some ⟨.sl 0 0 0 [] 0 a, [⟨0, 1, false, true, rowsS (recD a b q ws)⟩], []⟩ := by
  refine call_run rfl fn75 rfl ?_
  obtain ⟨p, hp, hinv⟩ := invH_some H h
  have h1 := H.a1
  have h2 := H.b1
  have hkm : a + b ≤ 8 := by omega
  have hgl := gN_len (k := a) (m := b)
  have hgb := gN_lt hkm
  have yl : (rwsAt (gN a b) a (pL a ws)).length = a * a := by rw [rwsAt_len hgl (pL_lt H), pL_len h]
  have yb : ∀ x ∈ rwsAt (gN a b) a (pL a ws), x < 256 := by
    intro x hx
    simp only [rwsAt, List.mem_flatMap] at hx
    obtain ⟨p, _, hx⟩ := hx
    exact hgb x (List.mem_of_mem_drop hx |> List.mem_of_mem_take)
  have gg := fun n => generator n a b h1.1 hkm
  have rr := fun n => rowsOf n (a + b) a (gN a b) (pL a ws) hkm (by omega) hgl (pL_lt H) (by rw [pL_len h]; omega)
  have ii := (invP 0 a _ ⟨h1.1, by omega⟩ yl yb hp).1
  have zb : ∀ x ∈ fl a p.2, x < 256 := fl_lt hinv.b2
  have pp := fun n => pieces n a a (fl a p.2) (bL a ws) q (by omega) ⟨h1.1, by omega⟩ (fl_len _ _) zb (bL_len h) (bL_all H) hq
  have hrec : recD a b q ws = pcs (fl a p.2) a a (bL a ws) q := by simp [recD, hp]
  rw [hrec]
  rw [← gN_cast hkm] at gg
  have hgl2 : (castL (gN a b)).length = (a + b) * a := by rw [castL_len, hgl]
  rw [hgl2] at gg
  rw [yl, pL_len h] at rr
  rw [bL_rows] at pp
  have hps : rowsZ (castL (pL a ws)) = rws encI ((ws.take a).map GShard.Pos) := by rw [pL_cast H]; rfl
  rw [hps] at rr
  have hul : (ws.take a).length = a := by simp; omega
  have hmn : min a ws.length = a := by omega
  have hgrl : (rowsZ (castL (gN a b))).length = (a + b) * a := by rw [rowsZ_len, hgl2]
  have hyrl : (rowsZ (castL (rwsAt (gN a b) a (pL a ws)))).length = a * a := by rw [rowsZ_len, castL_len, yl]
  have hzrl : (rowsZ (castL (fl a p.2))).length = a * a := by rw [rowsZ_len, castL_len, fl_len]
  have hprl : (rws encI ((ws.take a).map GShard.Pos)).length = a := by rw [rws_len]; simpa using hul
  have hsrl : (rws encT ((ws.take a).map GShard.Bytes)).length = a := by rw [rws_len]; simpa using hul
  have tG : (rowsZ (castL (gN a b))).take ((a + b) * a) = rowsZ (castL (gN a b)) := List.take_of_length_le (by omega)
  have tY : (rowsZ (castL (rwsAt (gN a b) a (pL a ws)))).take (a * a) = rowsZ (castL (rwsAt (gN a b) a (pL a ws))) := List.take_of_length_le (by omega)
  have tZ : (rowsZ (castL (fl a p.2))).take (a * a) = rowsZ (castL (fl a p.2)) := List.take_of_length_le (by omega)
  have hPr : (rowsS (pcs (fl a p.2) a a (bL a ws) q)).length = a := by rw [rowsS_len, pcs_len]
  have tP : (rowsS (pcs (fl a p.2) a a (bL a ws) q)).take a = rowsS (pcs (fl a p.2) a a (bL a ws) q) := List.take_of_length_le (by omega)
  have hal : (a : Int) ≤ (ws.length : Int) := by omega
  have happP := fun i hi => takeS (l := ws.take a) (i := i) hi
  have happB := fun i hi => takeB (l := ws.take a) (i := i) hi
  have hlnP : ∀ i, i ≤ a → (rws encI (((ws.take a).take i).map GShard.Pos)).length = i := fun i hi => by rw [rws_len]; simp; omega
  have hlnB : ∀ i, i ≤ a → (rws encT (((ws.take a).take i).map GShard.Bytes)).length = i := fun i hi => by rw [rws_len]; simp; omega
  have tk0 : (ws.take a).take a = ws.take a := List.take_of_length_le (by omega)
  clear hinv hp hrec hps
  generalize hPP : rowsS (pcs (fl a p.2) a a (bL a ws) q) = PP at *
  generalize rowsZ (castL (fl a p.2)) = Z at *
  generalize rowsZ (castL (rwsAt (gN a b) a (pL a ws))) = Y at *
  generalize rowsZ (castL (gN a b)) = X at *
  generalize hus : ws.take a = us at *
  have tPs : (rws encI (us.map GShard.Pos)).take a = rws encI (us.map GShard.Pos) := List.take_of_length_le (by omega)
  have tBs : (rws encT (us.map GShard.Bytes)).take a = rws encT (us.map GShard.Bytes) := List.take_of_length_le (by omega)
  generalize a * a = aa at *
  generalize (a + b) * a = aba at *
  generalize a + b = ab at *
  simp [F75, hal, hus, hul]
  refine ⟨fun x hx => by
    have := List.all_eq_true.1 (rws_all GShard.enc (sz := 2) (fun _ => rfl) ws) x hx
    simpa using this, ?_⟩
  refine RunC_loop (fun i : Nat => ⟨tm 45 [(2, .ptr 0 0 0 [] 0 0), (5, .sl 0 65536 0 [] 0 i), (6, .sl 0 131072 0 [] 0 i), (14, .rd true (rws GShard.enc us)), (15, .int .i64 a), (16, .int .i64 i)], [(0, some ⟨0, 2, true, false, [[.int .i64 a, .int .i64 b]]⟩), (256, some ⟨0, 1, false, true, []⟩), (65536, some ⟨0, 1, false, true, rws encI ((us.take i).map GShard.Pos)⟩), (131072, some ⟨0, 1, false, true, rws encT ((us.take i).map GShard.Bytes)⟩)], []⟩)
    (fun i => i ≤ a) (fun i => a - i) 0 (Nat.zero_le _) (by simp; omega) (by simp [tm]) fun i hi _ => ?_
  by_cases hlt : i < a
  · have hs := idx_succ' hlt (by omega)
    have hiu : i < us.length := by omega
    have e1 := happP i hiu
    have e2 := happB i hiu
    have l1 := hlnP i (by omega)
    have l2 := hlnB i (by omega)
    generalize hR1 : rws encI ((us.take (i + 1)).map GShard.Pos) = R1 at *
    generalize hR2 : rws encT ((us.take (i + 1)).map GShard.Bytes) = R2 at *
    generalize rws encI ((us.take i).map GShard.Pos) = Q1 at *
    generalize rws encT ((us.take i).map GShard.Bytes) = Q2 at *
    simp [tm, hlt, hs, hul, GShard.enc, evalW, source, l1, l2, e1, e2]
    exact ⟨⟨by omega, by omega⟩, ⟨by omega, by omega⟩, i + 1, by omega, by omega, by simp, by rw [← hR1, List.map_take], by rw [← hR2, List.map_take]⟩
  · have : i = a := by omega
    rw [this, tk0]
    simp [tm, hul, rcall129, gg, tG, hgrl, rcall130, tPs, hprl, rr, rcall128, tY, hyrl, ii, rcall131, tZ, hzrl, tBs, hsrl, pp, hPr]
set_option maxHeartbeats 16000000 in
theorem l04Back (k : Nat) {a b q : Nat} {ws : List GShard} (H : HaveF a b q ws) (h : a ≤ ws.length) (hq : q ≤ 1048576) :
    call code (k + 7) 124 [.agg [.int .i64 a, .int .i64 b], .rd true (rws GShard.enc ws)] [] = some ⟨.sl 0 0 0 [] 0 a, [⟨0, 1, false, true, rowsS (recD a b q ws)⟩], []⟩ := by
  refine call_run rfl fn124 rfl ?_
  obtain ⟨p, hp, hinv⟩ := invH_some H h
  have h1 := H.a1
  have h2 := H.b1
  have hkm : a + b ≤ 8 := by omega
  have hgl := gN_len (k := a) (m := b)
  have hgb := gN_lt hkm
  have yl : (rwsAt (gN a b) a (pL a ws)).length = a * a := by rw [rwsAt_len hgl (pL_lt H), pL_len h]
  have yb : ∀ x ∈ rwsAt (gN a b) a (pL a ws), x < 256 := by
    intro x hx
    simp only [rwsAt, List.mem_flatMap] at hx
    obtain ⟨p, _, hx⟩ := hx
    exact hgb x (List.mem_of_mem_drop hx |> List.mem_of_mem_take)
  have gg := fun n => l03Code n a b h1.1 hkm
  have rr := fun n => l03Rows n (a + b) a (gN a b) (pL a ws) hkm (by omega) hgl (pL_lt H) (by rw [pL_len h]; omega)
  have ii := (invP 0 a _ ⟨h1.1, by omega⟩ yl yb hp).2
  have zb : ∀ x ∈ fl a p.2, x < 256 := fl_lt hinv.b2
  have pp := fun n => l03Pieces n a a (fl a p.2) (bL a ws) q (by omega) ⟨h1.1, by omega⟩ (fl_len _ _) zb (bL_len h) (bL_all H) hq
  have hrec : recD a b q ws = pcs (fl a p.2) a a (bL a ws) q := by simp [recD, hp]
  rw [hrec]
  rw [← gN_cast hkm] at gg
  have hgl2 : (castL (gN a b)).length = (a + b) * a := by rw [castL_len, hgl]
  rw [hgl2] at gg
  rw [yl, pL_len h] at rr
  rw [bL_rows] at pp
  have hps : rowsZ (castL (pL a ws)) = rws encI ((ws.take a).map GShard.Pos) := by rw [pL_cast H]; rfl
  rw [hps] at rr
  have hul : (ws.take a).length = a := by simp; omega
  have hmn : min a ws.length = a := by omega
  have hgrl : (rowsZ (castL (gN a b))).length = (a + b) * a := by rw [rowsZ_len, hgl2]
  have hyrl : (rowsZ (castL (rwsAt (gN a b) a (pL a ws)))).length = a * a := by rw [rowsZ_len, castL_len, yl]
  have hzrl : (rowsZ (castL (fl a p.2))).length = a * a := by rw [rowsZ_len, castL_len, fl_len]
  have hprl : (rws encI ((ws.take a).map GShard.Pos)).length = a := by rw [rws_len]; simpa using hul
  have hsrl : (rws encT ((ws.take a).map GShard.Bytes)).length = a := by rw [rws_len]; simpa using hul
  have tG : (rowsZ (castL (gN a b))).take ((a + b) * a) = rowsZ (castL (gN a b)) := List.take_of_length_le (by omega)
  have tY : (rowsZ (castL (rwsAt (gN a b) a (pL a ws)))).take (a * a) = rowsZ (castL (rwsAt (gN a b) a (pL a ws))) := List.take_of_length_le (by omega)
  have tZ : (rowsZ (castL (fl a p.2))).take (a * a) = rowsZ (castL (fl a p.2)) := List.take_of_length_le (by omega)
  have hPr : (rowsS (pcs (fl a p.2) a a (bL a ws) q)).length = a := by rw [rowsS_len, pcs_len]
  have tP : (rowsS (pcs (fl a p.2) a a (bL a ws) q)).take a = rowsS (pcs (fl a p.2) a a (bL a ws) q) := List.take_of_length_le (by omega)
  have hal : (a : Int) ≤ (ws.length : Int) := by omega
  have happP := fun i hi => takeS (l := ws.take a) (i := i) hi
  have happB := fun i hi => takeB (l := ws.take a) (i := i) hi
  have hlnP : ∀ i, i ≤ a → (rws encI (((ws.take a).take i).map GShard.Pos)).length = i := fun i hi => by rw [rws_len]; simp; omega
  have hlnB : ∀ i, i ≤ a → (rws encT (((ws.take a).take i).map GShard.Bytes)).length = i := fun i hi => by rw [rws_len]; simp; omega
  have tk0 : (ws.take a).take a = ws.take a := List.take_of_length_le (by omega)
  clear hinv hp hrec hps
  generalize hPP : rowsS (pcs (fl a p.2) a a (bL a ws) q) = PP at *
  generalize rowsZ (castL (fl a p.2)) = Z at *
  generalize rowsZ (castL (rwsAt (gN a b) a (pL a ws))) = Y at *
  generalize rowsZ (castL (gN a b)) = X at *
  generalize hus : ws.take a = us at *
  have tPs : (rws encI (us.map GShard.Pos)).take a = rws encI (us.map GShard.Pos) := List.take_of_length_le (by omega)
  have tBs : (rws encT (us.map GShard.Bytes)).take a = rws encT (us.map GShard.Bytes) := List.take_of_length_le (by omega)
  generalize a * a = aa at *
  generalize (a + b) * a = aba at *
  generalize a + b = ab at *
  simp [F124]
  refine RunC_loop (fun i : Nat => ⟨tm 48 [(1, .rd true (rws GShard.enc ws)), (2, .ptr 0 0 0 [] 0 0), (5, .sl 0 65536 0 [] 0 i), (6, .sl 0 131072 0 [] 0 i), (7, .int .i64 i)], [(0, some ⟨0, 2, true, false, [[.int .i64 a, .int .i64 b]]⟩), (256, some ⟨0, 1, false, true, []⟩), (65536, some ⟨0, 1, false, true, rws encI ((us.take i).map GShard.Pos)⟩), (131072, some ⟨0, 1, false, true, rws encT ((us.take i).map GShard.Bytes)⟩)], []⟩)
    (fun i => i ≤ a) (fun i => a - i) 0 (Nat.zero_le _) (by simp; omega) (by simp [tm]) fun i hi _ => ?_
  by_cases hlt : i < a
  · have hs := idx_succ' hlt (by omega)
    have hiu : i < us.length := by omega
    have hiw : i < ws.length := by omega
    have hgx : us[i] = ws[i] := by subst hus; simp
    have e1 := happP i hiu
    have e2 := happB i hiu
    rw [hgx] at e1 e2
    have l1 := hlnP i (by omega)
    have l2 := hlnB i (by omega)
    generalize hR1 : rws encI ((us.take (i + 1)).map GShard.Pos) = R1 at *
    generalize hR2 : rws encT ((us.take (i + 1)).map GShard.Bytes) = R2 at *
    generalize rws encI ((us.take i).map GShard.Pos) = Q1 at *
    generalize rws encT ((us.take i).map GShard.Bytes) = Q2 at *
    simp [tm, hlt, hs, hiw, GShard.enc, evalW, source, l1, l2, e1, e2]
    exact ⟨⟨by omega, by omega⟩, ⟨by omega, by omega⟩, i + 1, by omega, by omega, by simp, by rw [← hR1, List.map_take], by rw [← hR2, List.map_take]⟩
  · have : i = a := by omega
    rw [this, tk0]
    simp [tm, hul, rcall133, gg, tG, hgrl, rcall150, tPs, hprl, rr, rcall149, tY, hyrl, ii, rcall132, tZ, hzrl, tBs, hsrl, pp, hPr]
end Go.Ae.C3
namespace Go.Ae.C3
set_option linter.unusedSimpArgs false
set_option linter.unusedVariables false
theorem join_nosep : ∀ xs : List (List UInt8), Lib.join xs [] = xs.flatten
  | [] => rfl
  | x :: r => by rw [Lib.join_cons]; simp [Lib.joinTail]
theorem strsOf_rows : ∀ ss : List ByteArray, strsOf (rws encT ss) = some ss
  | [] => rfl
  | s :: r => by
    have := strsOf_rows r
    rw [rws_cons]; simp only [encT, strsOf, this]
theorem joinD (k : Nat) (D : List (List UInt8)) (h1 : D.length ≤ 1000000) (h2 : D.flatten.length ≤ 1000000) : call code (k + 1) 74 [.rd true (rowsS D), .str ByteArray.empty] [] = some ⟨.str (B D.flatten), [], []⟩ := by
  refine nat74 k _ _ _ _ ?_
  have e1 : (D.map B).map (fun s => s.data.toList) = D := by
    rw [List.map_map]
    exact (List.map_congr_left fun s _ => by simp [B]).trans (List.map_id D)
  have e2 : Lib.join ((D.map B).map (fun s => s.data.toList)) ByteArray.empty.data.toList = D.flatten := by
    rw [e1]; exact join_nosep D
  simp only [natJoin, rowsS, strsOf_rows]
  rw [if_pos ⟨by simp; omega, by rw [e2]; omega⟩]
  unfold joinB
  rw [e2]; rfl
theorem pcs_all {an : List Nat} {h w n : Nat} {ls : List (List UInt8)} (hl : ∀ l ∈ ls, l.length = n) (hw : w ≤ ls.length) : ∀ l ∈ pcs an h w ls n, l.length = n := fun l hl' => by
  simp only [pcs, List.mem_map] at hl'
  obtain ⟨i, _, rfl⟩ := hl'
  exact acc_len hl w hw
theorem recD_all {a b q : Nat} {ws : List GShard} (H : HaveF a b q ws) (h : a ≤ ws.length) : ∀ l ∈ recD a b q ws, l.length = q := by
  obtain ⟨p, hp, _⟩ := invH_some H h
  simp only [recD, hp]
  exact pcs_all (bL_all H) (by rw [bL_len h]; exact Nat.le_refl _)
theorem flat_len {q : Nat} : ∀ {D : List (List UInt8)}, (∀ l ∈ D, l.length = q) → D.flatten.length = D.length * q
  | [], _ => by simp
  | x :: r, h => by
    have h1 := h x (by simp)
    have h2 := flat_len (D := r) fun l hl => h l (by simp [hl])
    rw [List.flatten_cons, List.length_append, h1, h2, List.length_cons, Nat.add_mul]; omega
def resT (t : ByteArray) (e : Int) : Res := ⟨.tup [.str t, .int .i64 e], [], []⟩
theorem haveB_inv {K M sz : Int} {ws : List GShard} (h : haveB K M sz ws = true) : ∃ a b n : Nat, K = a ∧ M = b ∧ sz = n ∧ n ≤ 64 ∧ HaveF a b (psz a n) ws := by
  simp only [haveB, Bool.and_eq_true] at h
  obtain ⟨⟨h1, h2⟩, h3⟩ := h
  obtain ⟨a, b, rfl, rfl, k1, k2, k3⟩ := codeB_nat h1
  simp [inB] at h2
  obtain ⟨n, rfl⟩ : ∃ n : Nat, sz = n := ⟨sz.toNat, by omega⟩
  exact ⟨a, b, n, rfl, rfl, rfl, by omega, haveF ⟨k1, k2⟩ k3 (by simpa using h3)⟩
/-- The body out of what is on hand. -/
def bodyD (a b n : Nat) (ws : List GShard) : List UInt8 := (recD a b (psz a n) ws).flatten.take n
end Go.Ae.C3
namespace Go.Ae.C3
set_option linter.unusedSimpArgs false
set_option linter.unusedVariables false
theorem tkG {α : Type} {enc : α → List AV} {l : List α} {n : Nat} (h : l.length = n) : (rws enc l).take n = rws enc l := by subst h; exact rws_takeLen enc l
end Go.Ae.C3
namespace Go.Ae.C3
set_option linter.unusedSimpArgs false
set_option linter.unusedVariables false
/-- All shards, out of what is on hand. -/
def anewD (a b q : Nat) (ws : List GShard) : List (List UInt8) := pcs (gN a b) (a + b) a (recD a b q ws) q
theorem anewD_len (a b q : Nat) (ws : List GShard) : (anewD a b q ws).length = a + b := by simp [anewD, pcs_len]
end Go.Ae.C3
