/- A byte turned; pieces and places asked for; which shards are odd. -/
import Derived.Test.YtnfghcflpnlbiaaC3M12
import Derived.Test.YtnfghcflpnlbiaaC3M14
namespace Go.Ae.C3
set_option linter.unusedSimpArgs false
set_option linter.unusedVariables false
theorem filter_set_one {α : Type} (p : α → Bool) : ∀ (l : List α) (k : Nat) (x : α), k < l.length → (∀ y ∈ l, p y = false) → p x = true → (l.set k x).filter p = [x]
  | [], k, x, h, _, _ => by simp at h
  | y :: l, 0, x, _, hf, hx => by
    have : l.filter p = [] := List.filter_eq_nil_iff.2 fun z hz => by simp [hf z (List.mem_cons_of_mem _ hz)]
    simp [List.set, List.filter, hx, this]
  | y :: l, k + 1, x, h, hf, hx => by
    have ih := filter_set_one p l k x (by simp at h; omega) (fun z hz => hf z (List.mem_cons_of_mem _ hz)) hx
    simp [List.set, List.filter, hf y (List.mem_cons_self), ih]
theorem odd_own {a b q : Nat} {ws : List GShard} {A : List (List UInt8)} (hA : anewD a b q ws = A) {s : GShard} (h : s.Bytes = B (A.getD s.Pos.toNat [])) : oddB a b q ws s = false := by
  unfold oddB; rw [hA, h]; simp
theorem oddL_nil {a b q : Nat} {ws : List GShard} {A : List (List UInt8)} (hA : anewD a b q ws = A) (h : ∀ s ∈ ws, s.Bytes = B (A.getD s.Pos.toNat [])) (i : Nat) : oddL a b q ws i = [] := by
  unfold oddL
  rw [List.filter_eq_nil_iff.2 fun s hs => by rw [odd_own hA (h s (List.mem_of_mem_take hs))]; simp]
  rfl
theorem recD_take {a b q : Nat} {ws vs : List GShard} (h : ws.take a = vs.take a) : recD a b q ws = recD a b q vs := by
  unfold recD invH pL bL
  rw [h]
theorem B_inj {l r : List UInt8} (h : (B l).toList = (B r).toList) : l = r := by
  rw [ByteArray.toList_eq, ByteArray.toList_eq, B_list, B_list] at h
  exact h
theorem oddL_one {a b q : Nat} {ws : List GShard} {A : List (List UInt8)} (hA : anewD a b q ws = A) (h : ∀ s ∈ ws, s.Bytes = B (A.getD s.Pos.toNat [])) {k : Nat} (hk : a ≤ k) (hk2 : k < ws.length) {t : List UInt8} (ht : t ≠ A.getD k []) :
    oddL a b q (ws.set k ⟨(k : Int), B t⟩) (ws.set k ⟨(k : Int), B t⟩).length = [(k : Int)] := by
  have hA' : anewD a b q (ws.set k ⟨(k : Int), B t⟩) = A := by
    unfold anewD at hA ⊢
    rw [recD_take (vs := ws) (by rw [List.take_set]; exact List.set_eq_of_length_le (by simp; omega)), hA]
  unfold oddL
  rw [List.take_length, filter_set_one _ ws k _ hk2 (fun y hy => odd_own hA' (h y hy)) ?_]
  · rfl
  · unfold oddB
    rw [hA']
    simp only [Int.toNat_natCast, Bool.not_eq_true', beq_eq_false_iff_ne, ne_eq]
    exact fun e => ht (B_inj e).symm
end Go.Ae.C3
namespace Go.Ae.C3
set_option linter.unusedSimpArgs false
set_option linter.unusedVariables false
theorem recD_gen {a b q : Nat} {D : List (List UInt8)} {ws : List GShard} (hDl : D.length = a) (hDa : ∀ x ∈ D, x.length = q) (H : HaveF a b q ws) (h : a ≤ ws.length) (hsh : ∀ i (hi : i < ws.length), ws[i].Bytes = B ((pcs (gN a b) (a + b) a D q).getD ws[i].Pos.toNat [])) : recD a b q ws = D := by
  obtain ⟨p, hp, hinv⟩ := invH_some H h
  have h1 := H.a1
  have h2 := H.b1
  have hkm : a + b ≤ 8 := by omega
  have zb : ∀ x ∈ fl a p.2, x < 256 := fl_lt hinv.b2
  simp only [recD, hp]
  apply List.ext_getElem
  · rw [pcs_len, hDl]
  intro r hr0 hrD
  have hr' : r < a := by omega
  have hpr : (pcs (fl a p.2) a a (bL a ws) q)[r] = acc (fl a p.2) a (bL a ws) q r a := by
    have := pcs_get (an := fl a p.2) (w := a) (n := q) (ls := bL a ws) hr'
    rw [List.getD_eq_getElem?_getD, List.getElem?_eq_getElem hr0] at this
    exact this
  rw [hpr]
  have hl1 := acc_len (an := fl a p.2) (w := a) (i := r) (bL_all H) a (by rw [bL_len h]; exact Nat.le_refl _)
  have hl2 : D[r].length = q := hDa _ (List.getElem_mem hrD)
  refine byt_ext (by rw [hl1, hl2]) fun t ht => ?_
  rw [hl1] at ht
  rw [acc_byt (bL_all H) zb ht a (by rw [bL_len h]; exact Nat.le_refl _)]
  let x : Nat → Nat := fun j => byt (D.getD j []) t
  let y : Nat → Nat := fun j => byt ((bL a ws).getD j []) t
  have hxr : byt D[r] t = x r := by
    simp [x, List.getD_eq_getElem?_getD, hrD]
  rw [hxr]
  have e1 : dot (fun j => (fl a p.2).getD (r * a + j) 0) y a = dot (p.2 r) y a := dot_congr a (fun j hj => fl_get hr' hj) (fun _ _ => rfl)
  rw [e1]
  have hsol : Sol a (unfl a (rwsAt (gN a b) a (pL a ws)), idM) x y := by
    intro i hi
    rw [show dot ((unfl a (rwsAt (gN a b) a (pL a ws)), idM).2 i) y a = dot (idM i) y a from rfl, dot_unit (i := i) a (fun _ _ => rfl) (fun j _ => byt_lt _ _), if_pos hi]
    have hiw : i < ws.length := by omega
    have hpos := H.pos i hiw
    have hb1 : (bL a ws).getD i [] = (pcs (gN a b) (a + b) a D q).getD ws[i].Pos.toNat [] := by
      have hlt : i < (bL a ws).length := by rw [bL_len h]; exact hi
      rw [List.getD_eq_getElem?_getD, List.getElem?_eq_getElem hlt]
      simp only [bL, Option.getD_some, List.getElem_map, List.getElem_take]
      rw [hsh i hiw, B_list]
    have hpl : (pL a ws).getD i 0 = ws[i].Pos.toNat := by
      have hlt : i < (pL a ws).length := by rw [pL_len h]; exact hi
      rw [List.getD_eq_getElem?_getD, List.getElem?_eq_getElem hlt]
      simp only [pL, Option.getD_some, List.getElem_map, List.getElem_take]
    show dot (unfl a (rwsAt (gN a b) a (pL a ws)) i) x a = byt ((bL a ws).getD i []) t
    rw [hb1, pcs_get (by omega), acc_byt hDa (gN_lt hkm) ht a (by rw [hDl]; exact Nat.le_refl _)]
    refine dot_congr a (fun j hj => ?_) (fun _ _ => rfl)
    unfold unfl
    rw [rwsAt_get gN_len (pL_lt H) (by rw [pL_len h]; exact hi) hj, hpl]
  rw [sol_full hinv (fun j _ => byt_lt _ _)] at hsol
  exact (hsol r hr').symm
theorem rdAt_gen {a u : Nat} {l : List UInt8} {X : List (List UInt8)} {p : Nat} (ha : 1 ≤ a) (hu : 1 ≤ u) (hX : a ≤ X.length) (hD : ∀ c, c < a → X.getD c [] = dW a u l c) (hp : p < l.length) : rdAt a u (X.map B) p = l.getD p 0 := by
  have hc := colN_lt ha hu p
  have ho := offN_lt ha hu hp
  unfold rdAt
  have e : (X.map B).getD (colN a u p) ByteArray.empty = B (dW a u l (colN a u p)) := by
    rw [← hD _ hc]
    rw [List.getD_eq_getElem?_getD, List.getD_eq_getElem?_getD, List.getElem?_map, List.getElem?_eq_getElem (by omega)]
    rfl
  rw [e, Blist]
  unfold dW dWi
  rw [List.getD_eq_getElem?_getD, List.getElem?_map, List.getElem?_range ho]
  simp only [Option.map_some, Option.getD_some, pos_of_cell ha hu]
theorem rdB_gen {a u : Nat} {l : List UInt8} {X : List (List UInt8)} {at_ m : Nat} (ha : 1 ≤ a) (hu : 1 ≤ u) (hX : a ≤ X.length) (hD : ∀ c, c < a → X.getD c [] = dW a u l c) (h : at_ + m ≤ l.length) : rdB a u (X.map B) at_ m = (l.drop at_).take m := by
  apply List.ext_getElem
  · rw [rdB_len, List.length_take, List.length_drop]; omega
  · intro i h1 h2
    rw [rdB_len] at h1
    have e : (rdB a u (X.map B) at_ m)[i] = rdAt a u (X.map B) (at_ + i) := by simp [rdB]
    rw [e, rdAt_gen ha hu hX hD (by omega), List.getElem_take, List.getElem_drop, List.getD_eq_getElem?_getD, List.getElem?_eq_getElem (by omega)]
    rfl
/-- A column turned. -/
theorem hasB_cast {ps : List Nat} {j : Nat} : hasB (castL ps) j = false → ∀ p ∈ ps, p ≠ j := by
  intro h p hp he
  subst he
  unfold hasB at h
  rw [List.any_eq_false] at h
  have := h (p : Int) (by simp only [castL]; exact List.mem_map.2 ⟨p, hp, rfl⟩)
  simp at this
theorem inc_cast {ps : List Nat} (h : ∀ i j (hi : i < j) (hj : j < ps.length), ps[i] < ps[j]) : incB (castL ps) = true := incB_true fun i hi h0 => by
  have hi' : i < ps.length := by simpa [castL] using hi
  have := h (i - 1) i (by omega) hi'
  unfold fallB
  rw [getDi hi, getDi (by omega)]
  simp [castL]; omega
theorem out_cast {ps : List Nat} {n : Nat} (h : ∀ p ∈ ps, p < n) : (castL ps).any (outB ((n : Int) - 1)) = false := by
  rw [List.any_eq_false]
  intro x hx
  simp only [castL, List.mem_map] at hx
  obtain ⟨p, hp, rfl⟩ := hx
  have := h p hp
  simp [outB, inB]; omega
end Go.Ae.C3
