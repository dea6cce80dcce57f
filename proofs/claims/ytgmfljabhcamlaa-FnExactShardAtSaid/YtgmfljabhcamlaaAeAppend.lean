/- append. -/
import Derived.Test.YtgmfljabhcamlaaAeStore
import Derived.Deep.Upon
namespace Go.Ae
open Go.RowKit
set_option linter.unusedVariables false
set_option linter.unusedSimpArgs false
section
variable {P : Program} {w w' w0 : World} {M : Nat → Nat → Path → Option Nat} {R : Nat → Prop} {S : St} {g : G} {a : Act} {o : Oper}

/-- A place has changed. -/
theorem WRel.change {lv s : Nat} {b b2 : Blk} {S2 : St} {g2 : G} {T : Nat → Prop} (hW : WRel w0 M R S g w) (hb : S.blk lv s = some b) (hS2 : S2 = S.put lv s (some b2)) (hver : b.ver < b2.ver)
    (hoth : ∀ lv' s' p, ¬ (lv' = lv ∧ s' = s) → g2.θ lv' s' p = g.θ lv' s' p)
    (hin : ∀ p B, g2.θ lv s p = some B → g.θ lv s p = some B ∨ (p = [] ∧ B = w.heap.size ∧ B < w'.heap.size))
    (hκ : ∀ B, B < w.heap.size → ¬ T B → g2.κ B = g.κ B) (hT : ∀ B, T B → ∃ p, g.θ lv s p = some B)
    (hos : w'.os = w.os) (htape : w'.tape = w.tape) (hout : w'.output = w.output) (hsz : w.heap.size ≤ w'.heap.size) (hk : ∀ B, B < w.heap.size → ¬ T B → w'.heap[B]? = w.heap[B]?)
    (hcont : Ext S g S2 g2 → ∀ p ys, navE b2.elems p = some ys → Cont (stab w0 R) S2 g2 w' lv s b2 p ys) : WRel w0 M R S2 g2 w' ∧ Ext S g S2 g2 := by
  have hget := blk_get hb
  have hTo : ∀ lv' s' p B, ¬ (lv' = lv ∧ s' = s) → g.θ lv' s' p = some B → ¬ T B := fun lv' s' p B hc hB ht => by
    obtain ⟨q, hq⟩ := hT B ht
    obtain ⟨h1, h2, _⟩ := hW.inj _ _ _ _ _ _ _ hB hq
    exact hc ⟨h1, h2⟩
  have hE : Ext S g S2 g2 := by
    intro lv' s' ob hob
    rw [hS2]
    by_cases hc : lv' = lv ∧ s' = s
    · obtain ⟨rfl, rfl⟩ := hc
      rw [hget] at hob; cases hob
      refine ⟨some b2, by rw [get_put hget]; simp, fun b' hb' => ?_⟩
      cases hb'
      exact ⟨b, rfl, Nat.le_of_lt hver, fun hv => by omega⟩
    · refine ⟨ob, by rw [get_put hget, if_neg hc]; exact hob, fun b' hb' => ⟨b', hb', Nat.le_refl _, fun _ => ⟨rfl, fun p ys hp => ⟨ys, hp, Nat.le_refl _, rfl, hoth _ _ _ hc, fun B' hB' => ?_⟩⟩⟩⟩
      exact hκ B' (hW.rng _ _ _ _ hB') (hTo _ _ _ _ hc hB')
  refine ⟨?_, hE⟩
  have hnew : ∀ lv' s' p B, g2.θ lv' s' p = some B → g.θ lv' s' p = some B ∨ ((lv' = lv ∧ s' = s) ∧ p = [] ∧ B = w.heap.size ∧ B < w'.heap.size) := fun lv' s' p B hB => by
    by_cases hc : lv' = lv ∧ s' = s
    · obtain ⟨rfl, rfl⟩ := hc
      rcases hin p B hB with h | h
      · exact .inl h
      · exact .inr ⟨⟨rfl, rfl⟩, h⟩
    · rw [hoth _ _ _ hc] at hB; exact .inl hB
  refine { os := hos.trans hW.os, tape := htape.trans hW.tape, output := hout.trans hW.output, size := Nat.le_trans hW.size hsz, keep := fun B' hB' hM => ?_, rng := fun lv' s' p B' h => ?_,
           fresh := fun s' p B' h => ?_, ext := fun lv' s' p B' h => ?_, inj := fun lv1 s1 p1 lv2 s2 p2 B' h h' => ?_, cont := fun lv' s' b' p ys hb' hp => ?_ }
  · have hlt : B' < w.heap.size := Nat.lt_of_lt_of_le hB' hW.size
    have hnt : ¬ T B' := fun ht => by
      obtain ⟨q, hq⟩ := hT B' ht
      cases lv with
      | zero => have := hW.fresh s q B' hq; omega
      | succ m => rcases hW.ext m s q B' hq with h | h
                  · exact hM _ _ _ h
                  · omega
    exact (hk B' hlt hnt).trans (hW.keep B' hB' hM)
  · rcases hnew _ _ _ _ h with h | ⟨_, _, rfl, h⟩
    · exact Nat.lt_of_lt_of_le (hW.rng _ _ _ _ h) hsz
    · exact h
  · rcases hnew _ _ _ _ h with h | ⟨_, _, rfl, h⟩
    · exact hW.fresh _ _ _ h
    · exact hW.size
  · rcases hnew _ _ _ _ h with h | ⟨_, _, rfl, h⟩
    · exact hW.ext _ _ _ _ h
    · exact .inr hW.size
  · rcases hnew _ _ _ _ h with h | ⟨⟨rfl, rfl⟩, rfl, rfl, _⟩ <;> rcases hnew _ _ _ _ h' with h' | ⟨⟨rfl, rfl⟩, rfl, e, _⟩
    · exact hW.inj _ _ _ _ _ _ _ h h'
    · subst e; have := hW.rng _ _ _ _ h; omega
    · have := hW.rng _ _ _ _ h'; omega
    · exact ⟨rfl, rfl, rfl⟩
  · rw [hS2, blk_put hget] at hb'
    by_cases hc : lv' = lv ∧ s' = s
    · rw [if_pos hc] at hb'; cases hb'
      obtain ⟨rfl, rfl⟩ := hc
      exact hcont hE p ys hp
    · rw [if_neg hc] at hb'
      refine (hW.cont lv' s' b' p ys hb' hp).mono hE (fun q => hoth _ _ q hc) fun B' hB' => ?_
      have hlt := hW.rng _ _ _ _ hB'
      have hnt := hTo _ _ _ _ hc hB'
      exact ⟨hk B' hlt hnt, hκ B' hlt hnt⟩

/-- What an append takes, out of rows. -/
theorem src_of {cell : Addr → Option Value} {tx e' : TypeId} {A : Option Addr} {n cap sz : Nat} {rows : List (List AV)} (hk : P.underlying tx = some (.slice e')) (hn : rows.length = n) (hsz : ∀ r ∈ rows, r.length = sz) (hpos : 0 < sz)
    (hc : ∀ i c v, cellAt rows i c = some v → v.scal = true ∧ ∃ ad cv, A = some ad ∧ w.cell? (ad.add (i * sz + c)) = some cv ∧ VRel S g cell v cv) :
    ∃ news, Src P sz tx (.slice A n cap) n news w ∧ ∀ i c v, cellAt rows i c = some v → v.scal = true ∧ ∃ cv, news[i * sz + c]? = some cv ∧ VRel S g cell v cv := by
  cases A with
  | none =>
    have h0 : rows = [] := by
      cases rows with
      | nil => rfl
      | cons r rs =>
        have hr := hsz r (by simp)
        have : cellAt (r :: rs) 0 0 = some (r[0]'(by omega)) := by simp [cellAt]
        obtain ⟨_, ad, cv, he, _⟩ := hc 0 0 _ this
        cases he
    subst h0
    simp at hn; subst hn
    exact ⟨[], Src.ofNil w hk cap, fun i c v h => by simp [cellAt] at h⟩
  | some ad =>
    have hdec : ∀ j, j < n * sz → ∃ v, cellAt rows (j / sz) (j % sz) = some v := fun j hj => by
      have h1 : j / sz < rows.length := by rw [hn]; exact Nat.div_lt_of_lt_mul (by rwa [Nat.mul_comm] at hj)
      have h2 := hsz _ (List.getElem_mem h1)
      have h3 : j % sz < (rows[j / sz]).length := by rw [h2]; exact Nat.mod_lt _ hpos
      exact ⟨_, by unfold cellAt; rw [List.getElem?_eq_getElem h1]; exact List.getElem?_eq_getElem h3⟩
    have hcj : ∀ j, j < n * sz → ∃ v cv, cellAt rows (j / sz) (j % sz) = some v ∧ v.scal = true ∧ w.cell? (ad.add j) = some cv ∧ VRel S g cell v cv := fun j hj => by
      obtain ⟨v, hv⟩ := hdec j hj
      obtain ⟨hs, ad', cv, he, h1, h2⟩ := hc _ _ v hv
      cases he
      have e : j / sz * sz + j % sz = j := by rw [Nat.mul_comm]; exact Nat.div_add_mod j sz
      rw [e] at h1
      exact ⟨v, cv, hv, hs, h1, h2⟩
    let news := (List.range (n * sz)).map fun j => (w.cell? (ad.add j)).getD undef
    have hget : ∀ j u, news[j]? = some u → j < n * sz ∧ w.cell? (ad.add j) = some u ∧ ∃ v, v.scal = true ∧ VRel S g cell v u := fun j u hj => by
      have hlt : j < n * sz := by have := (List.getElem?_eq_some_iff.1 hj).1; simpa [news] using this
      obtain ⟨v, cv, _, hs, h1, h2⟩ := hcj j hlt
      have hu : u = cv := by
        simp only [news, List.getElem?_map, List.getElem?_range hlt, Option.map_some, h1, Option.getD_some, Option.some.injEq] at hj
        exact hj.symm
      subst hu
      exact ⟨hlt, h1, v, hs, h2⟩
    refine ⟨news, Src.ofSlice w hk ad n cap news (by simp [news]) (fun j u hj => (hget j u hj).2.1) (fun u hu => ?_), fun i c v hv => ?_⟩
    · obtain ⟨j, hj⟩ := List.getElem?_of_mem hu
      obtain ⟨_, _, v, hs, hr⟩ := hget j u hj
      cases v <;> simp [AV.scal] at hs
      · rw [hr.int_inv]; rfl
      · rw [hr.bool_inv]; rfl
      · rw [hr.str_inv]; rfl
    · obtain ⟨hs, ad', cv, he, h1, h2⟩ := hc _ _ v hv
      cases he
      have hilt : i < rows.length ∧ c < sz := by
        unfold cellAt at hv
        split at hv
        · rename_i r hr
          have := hsz r (List.mem_of_getElem? hr)
          exact ⟨(List.getElem?_eq_some_iff.1 hr).1, by rw [← this]; exact (List.getElem?_eq_some_iff.1 hv).1⟩
        · cases hv
      have hlt : i * sz + c < n * sz := by
        have := Nat.mul_le_mul_right sz (show i + 1 ≤ n by omega)
        rw [Nat.add_mul, Nat.one_mul] at this; omega
      refine ⟨hs, cv, ?_, h2⟩
      simp only [news, List.getElem?_map, List.getElem?_range hlt, Option.map_some, h1, Option.getD_some]

theorem cellAt_append {xs ys : List (List AV)} {i c : Nat} {v : AV} (h : cellAt (xs ++ ys) i c = some v) : (i < xs.length ∧ cellAt xs i c = some v) ∨ (xs.length ≤ i ∧ cellAt ys (i - xs.length) c = some v) := by
  unfold cellAt at h ⊢
  by_cases hi : i < xs.length
  · rw [List.getElem?_append_left hi] at h; exact .inl ⟨hi, h⟩
  · rw [List.getElem?_append_right (by omega)] at h; exact .inr ⟨by omega, h⟩
theorem cellAt_drop {ys : List (List AV)} {off len i c : Nat} {v : AV} (h : cellAt ((ys.drop off).take len) i c = some v) : i < len ∧ cellAt ys (off + i) c = some v := by
  unfold cellAt at h ⊢
  rw [List.getElem?_take] at h
  split at h
  · rename_i r hr
    split at hr
    · rename_i hlt
      rw [List.getElem?_drop] at hr
      rw [hr]; exact ⟨hlt, h⟩
    · cases hr
  · cases h

/-- What an append's second operand gives. -/
theorem source_src {tx e' : TypeId} {sz : Nat} {v : AV} {cv : Value} {rows : List (List AV)} (hk : P.underlying tx = some (.slice e')) (hR : RdW w0 M R) (hW : WRel w0 M R S g w) (hv : VRel S g (stab w0 R) v cv) (hs : source S v = some rows)
    (hsz : ∀ r ∈ rows, r.length = sz) (hpos : 0 < sz) :
    ∃ A cap news, cv = .slice A rows.length cap ∧ Src P sz tx cv rows.length news w ∧ ∀ i c v, cellAt rows i c = some v → v.scal = true ∧ ∃ cv, news[i * sz + c]? = some cv ∧ VRel S g (stab w0 R) v cv := by
  unfold source at hs
  split at hs
  · cases hs
    have := hv.nil_inv; subst this
    obtain ⟨news, h1, h2⟩ := src_of (P := P) (w := w) (S := S) (g := g) (cell := stab w0 R) (A := none) (n := 0) (cap := 0) (rows := []) hk rfl hsz hpos (fun i c v h => by simp [cellAt] at h)
    exact ⟨none, 0, news, rfl, h1, h2⟩
  · rename_i ys
    cases hs
    have hrd := hv.rd_inv
    cases hrd with
    | rd _ _ A cap sz' cv' k1 k2 k3 k4 k5 =>
      obtain ⟨news, h1, h2⟩ := src_of (P := P) (w := w) (S := S) (g := g) (cell := stab w0 R) (A := A) (n := rows.length) (cap := cap) (rows := rows) hk rfl hsz hpos (fun i c v h => by
        obtain ⟨ad, e1, e2⟩ := k4 i c v h
        have hsc : v.scal = true := by
          unfold cellAt at h
          split at h
          · rename_i r hr; exact k3 rfl r (List.mem_of_getElem? hr) v (List.mem_of_getElem? h)
          · cases h
        have hszz : sz' = sz := by
          unfold cellAt at h
          split at h
          · rename_i r hr; rw [← k2 r (List.mem_of_getElem? hr), hsz r (List.mem_of_getElem? hr)]
          · cases h
        subst hszz
        exact ⟨hsc, ad, _, e1, stab_cell hR hW e2, (k5 i c v h).vrel⟩)
      exact ⟨A, cap, news, rfl, h1, h2⟩
  · rename_i lv s ver p off len
    split at hs
    · rename_i b ys hat
      obtain ⟨hb, hver, hnav⟩ := at_blk hat
      split at hs
      · rename_i hc
        obtain ⟨hbox, hle⟩ := hc
        split at hs
        · rename_i hfl
          cases hs
          obtain ⟨A, cap, rfl, h1, h2, h3⟩ := hv.sl_inv.2 _ _ hat
          have hflat := flat_scal hW hb hbox hfl hnav
          obtain ⟨c1, c2, c3⟩ := hW.cont lv s b p ys hb hnav
          have hlen : ((ys.drop off).take len).length = len := by simp; omega
          obtain ⟨news, k1, k2⟩ := src_of (P := P) (w := w) (S := S) (g := g) (cell := stab w0 R) (A := A) (n := len) (cap := cap) (rows := (ys.drop off).take len) hk hlen hsz hpos (fun i c v h => by
            obtain ⟨hi, hcell⟩ := cellAt_drop h
            have hne : ys ≠ [] := fun e => by subst e; simp [cellAt] at hcell
            cases hB : g.θ lv s p with
            | none => rw [hB] at c3; exact absurd c3 hne
            | some B =>
              rw [hB] at c3 h3
              obtain ⟨arr, ty, fz, a1, a2, a3, a4, a5⟩ := c3
              obtain ⟨cv, e1, e2⟩ := a5 _ _ v hcell
              have hrow : ∃ r, ys[off + i]? = some r ∧ r[c]? = some v := by
                unfold cellAt at hcell
                split at hcell
                · rename_i r hr; exact ⟨r, hr, hcell⟩
                · cases hcell
              obtain ⟨r, hr, hrc⟩ := hrow
              have hsc := hflat r (List.mem_of_getElem? hr) v (List.mem_of_getElem? hrc)
              have hcz : csz b.sz p ys = sz := by
                rw [← c1 r (List.mem_of_getElem? hr)]
                refine hsz r ?_
                have : ((ys.drop off).take len)[i]? = some r := by rw [List.getElem?_take, if_pos hi, List.getElem?_drop]; exact hr
                exact List.mem_of_getElem? this
              rw [hcz] at e1 h3
              have hA : A = some ⟨B, off * sz, none⟩ := by
                rcases h3.1 with h | h
                · omega
                · exact h
              have hkv : VRel S g (stab w0 R) v cv := by
                have : VRel S g (stab w0 R) (v.mapR (upR lv)) cv := by
                  cases v <;> first | exact e2.1 | simp [AV.scal] at hsc
                rwa [scal_mapR hsc] at this
              refine ⟨hsc, _, cv, hA, ?_, hkv⟩
              rw [show (⟨B, off * sz, none⟩ : Addr).add (i * sz + c) = ⟨B, off * sz + (i * sz + c), none⟩ from Addr.add_lit _ _ _, blk_cell' a1]
              rw [Nat.add_mul, Nat.add_assoc] at e1
              exact e1)
          refine ⟨A, cap, news, by rw [hlen], ?_, k2⟩
          rw [hlen]; exact k1
        · cases hs
      · cases hs
    · cases hs
  · cases hs
end
end Go.Ae
