/- Rows of the code's matrix by the places on hand: the reference's; what is on hand is a choice of rows. -/
import Derived.Test.YtnfghcflpnlbiaaC3M6
import Derived.Test.YtnfghcflpnlbiaaC3M9
namespace Go.Ae.C3
set_option linter.unusedSimpArgs false
set_option linter.unusedVariables false
def hcode (K M sz : Int) (ws : List GShard) : Int := if haveB K M sz ws = true then (if decide ((ws.length : Int) < K) = true then 8 else 0) else 1
end Go.Ae.C3
namespace Go.Ae.C3
set_option linter.unusedSimpArgs false
set_option linter.unusedVariables false
theorem subs_of : ∀ (n : Nat) (l : List Nat), (∀ i j (hi : i < j) (hj : j < l.length), l[i] < l[j]) → (∀ x ∈ l, x < n) → l ∈ subs n
  | 0, l, _, h => by
    cases l with
    | nil => simp [subs]
    | cons x r => have := h x (by simp); omega
  | n + 1, l, h1, h2 => by
    unfold subs
    rcases List.eq_nil_or_concat l with rfl | ⟨r, x, rfl⟩
    · exact List.mem_append.2 (.inl (subs_of n [] (fun i j _ hj => by simp at hj) (fun x hx => by simp at hx)))
    · rw [List.concat_eq_append] at h1 h2 ⊢
      have hr : ∀ i j (hi : i < j) (hj : j < r.length), r[i] < r[j] := fun i j hi hj => by
        have := h1 i j hi (by simp; omega)
        rw [List.getElem_append_left (by omega), List.getElem_append_left (by omega)] at this; exact this
      have hx := h2 x (by simp)
      have hrx : ∀ y ∈ r, y < x := fun y hy => by
        obtain ⟨i, hi, rfl⟩ := List.getElem_of_mem hy
        have := h1 i r.length hi (by simp)
        rw [List.getElem_append_left hi, List.getElem_append_right (Nat.le_refl _)] at this
        simpa using this
      by_cases he : x = n
      · subst he
        exact List.mem_append.2 (.inr (List.mem_map.2 ⟨r, subs_of x r hr hrx, rfl⟩))
      · refine List.mem_append.2 (.inl (subs_of n (r ++ [x]) h1 fun y hy => ?_))
        rcases List.mem_append.1 hy with hy | hy
        · have := hrx y hy; omega
        · simp at hy; omega
/-- The places and the bytes of the first of what is on hand. -/
def pL (a : Nat) (ws : List GShard) : List Nat := (ws.take a).map fun s => s.Pos.toNat
def bL (a : Nat) (ws : List GShard) : List (List UInt8) := (ws.take a).map fun s => s.Bytes.data.toList
structure HaveF (a b q : Nat) (ws : List GShard) : Prop where
  a1 : 1 ≤ a ∧ a ≤ 4
  b1 : b ≤ 3
  pos : ∀ i (h : i < ws.length), 0 ≤ ws[i].Pos ∧ ws[i].Pos < (a + b : Nat)
  inc : ∀ i j (hi : i < j) (hj : j < ws.length), ws[i].Pos < ws[j].Pos
  len : ∀ i (h : i < ws.length), ws[i].Bytes.size = q
theorem haveF {a b q : Nat} {ws : List GShard} (h1 : 1 ≤ a ∧ a ≤ 4) (h2 : b ≤ 3) (h : haveL a b q ws = true) : HaveF a b q ws := by
  unfold haveL at h
  rw [List.all_eq_true] at h
  have hg : ∀ i (hi : i < ws.length), (0 ≤ ws[i].Pos ∧ ws[i].Pos < (a + b : Nat)) ∧ (0 < i → (shAt ws (i - 1)).Pos < ws[i].Pos) ∧ ws[i].Bytes.size = q := fun i hi => by
    have := h i (List.mem_range.2 hi)
    have hx : shAt ws i = ws[i] := by simp [shAt, List.getD_eq_getElem?_getD, hi]
    simp only [hgood, hx, Bool.and_eq_true] at this
    obtain ⟨⟨k1, k2⟩, k3⟩ := this
    simp [inB] at k1 k2 k3
    exact ⟨by omega, fun h0 => by rcases k2 with k2 | k2 <;> omega, by omega⟩
  have hstep : ∀ i (hi : i + 1 < ws.length), ws[i].Pos < ws[i + 1].Pos := fun i hi => by
    have := (hg (i + 1) hi).2.1 (by omega)
    have hx : shAt ws i = ws[i] := by simp [shAt, List.getD_eq_getElem?_getD, show i < ws.length by omega]
    simpa [hx] using this
  refine ⟨h1, h2, fun i hi => (hg i hi).1, fun i j hij hj => ?_, fun i hi => (hg i hi).2.2⟩
  obtain ⟨d, rfl⟩ : ∃ d, j = i + 1 + d := ⟨j - (i + 1), by omega⟩
  induction d with
  | zero => exact hstep i hj
  | succ d ih =>
    have h1 := ih (by omega) (by omega)
    have h2 := hstep (i + 1 + d) (by omega)
    have e : i + 1 + (d + 1) = i + 1 + d + 1 := by omega
    simp only [e] at hj ⊢
    omega
theorem pL_len {a : Nat} {ws : List GShard} (h : a ≤ ws.length) : (pL a ws).length = a := by simp [pL]; omega
theorem bL_len {a : Nat} {ws : List GShard} (h : a ≤ ws.length) : (bL a ws).length = a := by simp [bL]; omega
theorem pL_lt {a b q : Nat} {ws : List GShard} (H : HaveF a b q ws) : ∀ p ∈ pL a ws, p < a + b := fun p hp => by
  simp only [pL, List.mem_map] at hp
  obtain ⟨s, hs, rfl⟩ := hp
  obtain ⟨i, hi, rfl⟩ := List.getElem_of_mem (List.mem_of_mem_take hs)
  have := H.pos i hi
  omega
theorem pL_cast {a b q : Nat} {ws : List GShard} (H : HaveF a b q ws) : castL (pL a ws) = (ws.take a).map GShard.Pos := by
  unfold castL pL
  rw [List.map_map]
  refine List.map_congr_left fun s hs => ?_
  obtain ⟨i, hi, rfl⟩ := List.getElem_of_mem (List.mem_of_mem_take hs)
  have := H.pos i hi
  simp; omega
theorem pL_subs {a b q : Nat} {ws : List GShard} (H : HaveF a b q ws) : pL a ws ∈ subs 8 := by
  refine subs_mono (n := a + b) 8 (by have := H.a1; have := H.b1; omega) _ (subs_of _ _ (fun i j hi hj => ?_) (pL_lt H))
  have hl : (pL a ws).length ≤ ws.length := by simp [pL]; omega
  have h1 := H.inc i j hi (by omega)
  have h2 := H.pos i (by omega)
  have h3 := H.pos j (by omega)
  simp only [pL, List.getElem_map, List.getElem_take]
  omega
theorem bL_all {a b q : Nat} {ws : List GShard} (H : HaveF a b q ws) : ∀ l ∈ bL a ws, l.length = q := fun l hl => by
  simp only [bL, List.mem_map] at hl
  obtain ⟨s, hs, rfl⟩ := hl
  obtain ⟨i, hi, rfl⟩ := List.getElem_of_mem (List.mem_of_mem_take hs)
  have := H.len i hi
  simpa using this
theorem bL_rows {a : Nat} {ws : List GShard} : rowsS (bL a ws) = rws encT ((ws.take a).map GShard.Bytes) := by
  simp only [rowsS, bL, rws, List.map_map]
  exact List.map_congr_left fun s hs => by simp [encT, B_eta]
theorem unfl_bnd {w : Nat} {an : List Nat} (h : ∀ x ∈ an, x < 256) : bnd w (unfl w an) := fun i j _ _ => getD_lt h _
/-- The inverse of the rows on hand. -/
def invH (a b : Nat) (ws : List GShard) : Option (Mx × Mx) := runS a (unfl a (rwsAt (gN a b) a (pL a ws)), idM) a
theorem invH_some {a b q : Nat} {ws : List GShard} (H : HaveF a b q ws) (h : a ≤ ws.length) : ∃ p, invH a b ws = some p ∧ Inv a a (unfl a (rwsAt (gN a b) a (pL a ws)), idM) p := by
  have h1 := H.a1
  have h2 := H.b1
  have hkm : a + b ≤ 8 := by omega
  have yb : ∀ x ∈ rwsAt (gN a b) a (pL a ws), x < 256 := by
    intro x hx
    simp only [rwsAt, List.mem_flatMap] at hx
    obtain ⟨p, _, hx⟩ := hx
    exact gN_lt hkm x (List.mem_of_mem_drop hx |> List.mem_of_mem_take)
  exact runS_rows (by omega) (pL_subs H) (pL_len h) (fun i j hi hj => rows_G hkm (pL_lt H) (pL_len h) hi hj) (unfl_bnd yb)
def recD (a b q : Nat) (ws : List GShard) : List (List UInt8) := match invH a b ws with
  | some p => pcs (fl a p.2) a a (bL a ws) q
  | none => []
theorem recD_len {a b q : Nat} {ws : List GShard} (H : HaveF a b q ws) (h : a ≤ ws.length) : (recD a b q ws).length = a := by
  obtain ⟨p, hp, _⟩ := invH_some H h
  simp [recD, hp, pcs_len]
end Go.Ae.C3
namespace Go.Ae.C3
set_option linter.unusedSimpArgs false
set_option linter.unusedVariables false
theorem takeS {l : List GShard} {i : Nat} (h : i < l.length) : rws encI ((l.take i).map GShard.Pos) ++ [[.int .i64 l[i].Pos]] = rws encI ((l.take (i + 1)).map GShard.Pos) := by
  rw [List.take_succ_eq_append_getElem h, List.map_append, rws_app]; rfl
theorem takeB {l : List GShard} {i : Nat} (h : i < l.length) : rws encT ((l.take i).map GShard.Bytes) ++ [[.str l[i].Bytes]] = rws encT ((l.take (i + 1)).map GShard.Bytes) := by
  rw [List.take_succ_eq_append_getElem h, List.map_append, rws_app]; rfl
end Go.Ae.C3
namespace Go.Ae.C3
set_option linter.unusedSimpArgs false
set_option linter.unusedVariables false
theorem join_nosep : ∀ xs : List (List UInt8), Lib.join xs [] = xs.flatten
  | [] => rfl
  | x :: r => by rw [Lib.join_cons]; simp [Lib.joinTail]
theorem strsOf_rows : ∀ ss : List ByteArray, strsOf (rws encT ss) = some ss
  | [] => rfl
  | s :: r => by
    have := strsOf_rows r
    rw [rws_cons]; simp only [encT, strsOf, this]
theorem joinD (k : Nat) (D : List (List UInt8)) (h1 : D.length ≤ 1000000) (h2 : D.flatten.length ≤ 1000000) : call code (k + 1) 74 [.rd true (rowsS D), .str ByteArray.empty] [] = some ⟨.str (B D.flatten), [], []⟩ := by
  refine nat74 k _ _ _ _ ?_
  have e1 : (D.map B).map (fun s => s.data.toList) = D := by
    rw [List.map_map]
    exact (List.map_congr_left fun s _ => by simp [B]).trans (List.map_id D)
  have e2 : Lib.join ((D.map B).map (fun s => s.data.toList)) ByteArray.empty.data.toList = D.flatten := by
    rw [e1]; exact join_nosep D
  simp only [natJoin, rowsS, strsOf_rows]
  rw [if_pos ⟨by simp; omega, by rw [e2]; omega⟩]
  unfold joinB
  rw [e2]; rfl
theorem pcs_all {an : List Nat} {h w n : Nat} {ls : List (List UInt8)} (hl : ∀ l ∈ ls, l.length = n) (hw : w ≤ ls.length) : ∀ l ∈ pcs an h w ls n, l.length = n := fun l hl' => by
  simp only [pcs, List.mem_map] at hl'
  obtain ⟨i, _, rfl⟩ := hl'
  exact acc_len hl w hw
theorem recD_all {a b q : Nat} {ws : List GShard} (H : HaveF a b q ws) (h : a ≤ ws.length) : ∀ l ∈ recD a b q ws, l.length = q := by
  obtain ⟨p, hp, _⟩ := invH_some H h
  simp only [recD, hp]
  exact pcs_all (bL_all H) (by rw [bL_len h]; exact Nat.le_refl _)
theorem flat_len {q : Nat} : ∀ {D : List (List UInt8)}, (∀ l ∈ D, l.length = q) → D.flatten.length = D.length * q
  | [], _ => by simp
  | x :: r, h => by
    have h1 := h x (by simp)
    have h2 := flat_len (D := r) fun l hl => h l (by simp [hl])
    rw [List.flatten_cons, List.length_append, h1, h2, List.length_cons, Nat.add_mul]; omega
def resT (t : ByteArray) (e : Int) : Res := ⟨.tup [.str t, .int .i64 e], [], []⟩
theorem haveB_inv {K M sz : Int} {ws : List GShard} (h : haveB K M sz ws = true) : ∃ a b n : Nat, K = a ∧ M = b ∧ sz = n ∧ n ≤ 64 ∧ HaveF a b (psz a n) ws := by
  simp only [haveB, Bool.and_eq_true] at h
  obtain ⟨⟨h1, h2⟩, h3⟩ := h
  obtain ⟨a, b, rfl, rfl, k1, k2, k3⟩ := codeB_nat h1
  simp [inB] at h2
  obtain ⟨n, rfl⟩ : ∃ n : Nat, sz = n := ⟨sz.toNat, by omega⟩
  exact ⟨a, b, n, rfl, rfl, rfl, by omega, haveF ⟨k1, k2⟩ k3 (by simpa using h3)⟩
/-- The body out of what is on hand. -/
def bodyD (a b n : Nat) (ws : List GShard) : List UInt8 := (recD a b (psz a n) ws).flatten.take n
end Go.Ae.C3
namespace Go.Ae.C3
set_option linter.unusedSimpArgs false
set_option linter.unusedVariables false
theorem tkG {α : Type} {enc : α → List AV} {l : List α} {n : Nat} (h : l.length = n) : (rws enc l).take n = rws enc l := by subst h; exact rws_takeLen enc l
end Go.Ae.C3
namespace Go.Ae.C3
set_option linter.unusedSimpArgs false
set_option linter.unusedVariables false
/-- All shards, out of what is on hand. -/
def anewD (a b q : Nat) (ws : List GShard) : List (List UInt8) := pcs (gN a b) (a + b) a (recD a b q ws) q
theorem anewD_len (a b q : Nat) (ws : List GShard) : (anewD a b q ws).length = a + b := by simp [anewD, pcs_len]
end Go.Ae.C3
