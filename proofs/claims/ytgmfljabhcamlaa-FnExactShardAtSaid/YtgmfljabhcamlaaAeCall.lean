/- What a call is handed, by value. -/
import Derived.Test.YtgmfljabhcamlaaAeRun7
namespace Go.Ae
open Go.RowKit
set_option linter.unusedVariables false
set_option linter.unusedSimpArgs false
section
variable {P : Program} {w w0 : World} {M : Nat → Nat → Path → Option Nat} {R : Nat → Prop} {S : St} {g : G} {a : Act} {o : Oper}

theorem Rd.mono {cell cell' : Addr → Option Value} (h : ∀ ad v, cell ad = some v → cell' ad = some v) {v : AV} {cv : Value} (k : Rd cell v cv) : Rd cell' v cv := by
  induction k with
  | int k n => exact .int k n
  | bool b => exact .bool b
  | str s => exact .str s
  | undef v => exact .undef v
  | rd fl xs A cap sz cv h2 hsz hfl hc hr ih => exact .rd fl xs A cap sz cv h2 hsz hfl (fun i c v hv => by obtain ⟨ad, h1, h3⟩ := hc i c v hv; exact ⟨ad, h1, h _ _ h3⟩) ih
  | rptr ad cs cv hc hr ih => exact .rptr ad cs cv (fun c v hv => h _ _ (hc c v hv)) ih
  | fn f cs arr hl hr ih => exact .fn f cs arr hl ih
  | agg cs arr hl hr ih => exact .agg cs arr hl ih

theorem deepRow_map : ∀ r : List AV, AV.deepRow r = r.map AV.deep
  | [] => rfl
  | v :: r => by simp [AV.deepRow, deepRow_map r]
theorem deepRows_map : ∀ xs : List (List AV), AV.deepRows xs = xs.map fun r => r.map AV.deep
  | [] => rfl
  | r :: xs => by simp [AV.deepRows, deepRows_map xs, deepRow_map]
theorem cellAt_deep {xs : List (List AV)} {i c : Nat} : cellAt (AV.deepRows xs) i c = (cellAt xs i c).map AV.deep := by
  unfold cellAt
  rw [deepRows_map, List.getElem?_map]
  cases xs[i]? <;> simp
theorem scal_deep {v : AV} (h : v.scal = true) : v.deep = v := by cases v <;> first | rfl | simp [AV.scal] at h

/-- The world's cells, all of them. -/
def allB (w : World) (B : Nat) : Prop := B < w.heap.size
theorem stab_all (ad : Addr) (v : Value) (h : w.cell? ad = some v) : stab w (allB w) ad = some v := by
  unfold stab
  rw [if_pos (show allB w ad.block from World.block_lt_of_cell? w ad h)]; exact h
theorem Rd.toW (hR : RdW w0 M R) (hW : WRel w0 M R S g w) {v : AV} {cv : Value} (h : Rd (stab w0 R) v cv) : Rd (stab w (allB w)) v cv := h.mono fun ad u hu => stab_all ad u (stab_cell hR hW hu)

theorem scal_rd {cell cell' : Addr → Option Value} {v : AV} {cv : Value} (hs : v.scal = true) (h : VRel S g cell v cv) : Rd cell' v cv := by
  cases v <;> simp [AV.scal] at hs
  · rw [h.int_inv]; exact .int _ _
  · rw [h.bool_inv]; exact .bool _
  · rw [h.str_inv]; exact .str _

theorem sizeOf_cell {ys : List (List AV)} {i c : Nat} {fl : Bool} {zs : List (List AV)} (h : cellAt ys i c = some (.own fl zs)) : SizeOf.sizeOf zs < SizeOf.sizeOf ys := by
  obtain ⟨r, hr, hv⟩ := cellAt_mem h
  have h1 := List.sizeOf_lt_of_mem hr
  have h2 := List.sizeOf_lt_of_mem hv
  have h3 : SizeOf.sizeOf (AV.own fl zs) = 1 + SizeOf.sizeOf fl + SizeOf.sizeOf zs := by simp
  omega

/-- A part of a row of one's own, read. -/
theorem own_rd {lv s : Nat} {b : Blk} (hW : WRel w0 M R S g w) (hb : S.blk lv s = some b) (hbox : b.box = false) : ∀ (N : Nat) (p : Path) (ys : List (List AV)) (off len cap : Nat) (A : Option Addr) (fl : Bool), SizeOf.sizeOf ys < N → navE b.elems p = some ys →
    (fl = true → ∀ r ∈ ys, ∀ v ∈ r, v.scal = true) → len ≤ cap → off + len ≤ ys.length →
    (match g.θ lv s p with | some B => cap = 0 ∨ A = some ⟨B, off * csz b.sz p ys, none⟩ | none => A = none ∧ cap = 0) → Rd (stab w (allB w)) (.rd fl (AV.deepRows ((ys.drop off).take len))) (.slice A len cap)
  | 0, p, ys, off, len, cap, A, fl, hN, hn, hfl, h1, h2, h3 => by omega
  | N + 1, p, ys, off, len, cap, A, fl, hN, hn, hfl, h1, h2, h3 => by
    obtain ⟨d1, d2, d3⟩ := hW.cont lv s b p ys hb hn
    have hlen : (AV.deepRows ((ys.drop off).take len)).length = len := by rw [deepRows_map]; simp; omega
    have key : ∀ i c v, cellAt (AV.deepRows ((ys.drop off).take len)) i c = some v → ∃ u, cellAt ys (off + i) c = some u ∧ v = u.deep ∧ i < len := by
      intro i c v hv
      rw [cellAt_deep] at hv
      cases hu : cellAt ((ys.drop off).take len) i c with
      | none => simp [hu] at hv
      | some u =>
        simp only [hu, Option.map_some, Option.some.injEq] at hv
        refine ⟨u, ?_, hv.symm, ?_⟩
        · unfold cellAt at hu ⊢
          rw [List.getElem?_take, List.getElem?_drop] at hu
          by_cases hi : i < len
          · rw [if_pos hi] at hu; exact hu
          · rw [if_neg hi] at hu; cases hu
        · unfold cellAt at hu
          rw [List.getElem?_take] at hu
          by_cases hi : i < len
          · exact hi
          · rw [if_neg hi] at hu; cases hu
    have hex : ∀ i c v, ∃ cv, cellAt (AV.deepRows ((ys.drop off).take len)) i c = some v → (∃ ad, A = some ad ∧ stab w (allB w) (ad.add (i * csz b.sz p ys + c)) = some cv) ∧ Rd (stab w (allB w)) v cv := by
      intro i c v
      by_cases hv : cellAt (AV.deepRows ((ys.drop off).take len)) i c = some v
      · obtain ⟨u, hu, rfl, hi⟩ := key i c v hv
        cases hB : g.θ lv s p with
        | none =>
          rw [hB] at d3; rw [d3] at hu; simp [cellAt] at hu
        | some B =>
          rw [hB] at d3 h3
          obtain ⟨arr, ty, fz, a1, a2, a3, a4, a5⟩ := d3
          obtain ⟨cv, c1, c2⟩ := a5 _ _ _ hu
          refine ⟨cv, fun _ => ⟨⟨_, h3.resolve_left (by omega), ?_⟩, ?_⟩⟩
          · refine stab_all _ _ ?_
            rw [Addr.add_lit, blk_cell' a1]
            have e : off * csz b.sz p ys + (i * csz b.sz p ys + c) = (off + i) * csz b.sz p ys + c := by rw [Nat.add_mul]; omega
            rw [e]; exact c1
          · have hu0 := hu
            clear hv
            cases u with
            | own fl' zs =>
              obtain ⟨k1, k2, k3, A', cap', rfl, k4, k5⟩ := c2
              have hsub := own_rd hW hb hbox N (p ++ [(off + i, c)]) zs 0 zs.length cap' A' fl' (by have := sizeOf_cell hu; omega) (navE_append hn (by simp [navE, hu])) k3 k4 (by simp) (by
                cases hB' : g.θ lv s (p ++ [(off + i, c)]) with
                | none => rw [hB'] at k5; exact k5
                | some B' => rw [hB'] at k5; simpa using k5)
              simpa [AV.deep] using hsub
            | _ => rw [scal_deep (c2.2 hbox)]; exact scal_rd (c2.2 hbox) (by have := c2.1; rwa [scal_mapR (c2.2 hbox)] at this)
      · exact ⟨undef, fun h => absurd h hv⟩
    have hcv : ∃ cv : Nat → Nat → Value, ∀ i c v, cellAt (AV.deepRows ((ys.drop off).take len)) i c = some v → (∃ ad, A = some ad ∧ stab w (allB w) (ad.add (i * csz b.sz p ys + c)) = some (cv i c)) ∧ Rd (stab w (allB w)) v (cv i c) := by
      have hex' : ∀ i c, ∃ cv, ∀ v, cellAt (AV.deepRows ((ys.drop off).take len)) i c = some v → (∃ ad, A = some ad ∧ stab w (allB w) (ad.add (i * csz b.sz p ys + c)) = some cv) ∧ Rd (stab w (allB w)) v cv := fun i c => by
        cases hv : cellAt (AV.deepRows ((ys.drop off).take len)) i c with
        | none => exact ⟨undef, fun v h => by cases h⟩
        | some v =>
          obtain ⟨cv, h⟩ := hex i c v
          exact ⟨cv, fun v' hv' => by cases hv'; exact h hv⟩
      exact ⟨fun i c => Classical.choose (hex' i c), fun i c v hv => Classical.choose_spec (hex' i c) v hv⟩
    obtain ⟨cv, hcv⟩ := hcv
    have := Rd.rd (cell := stab w (allB w)) fl (AV.deepRows ((ys.drop off).take len)) A cap (csz b.sz p ys) cv (by rw [hlen]; exact h1) (fun r hr => by
      rw [deepRows_map, List.mem_map] at hr
      obtain ⟨r', hr', rfl⟩ := hr
      rw [List.length_map]
      exact d1 r' (List.mem_of_mem_drop (List.mem_of_mem_take hr'))) (fun hf r hr v hv => by
      rw [deepRows_map, List.mem_map] at hr
      obtain ⟨r', hr', rfl⟩ := hr
      rw [List.mem_map] at hv
      obtain ⟨u, hu, rfl⟩ := hv
      have hs := hfl hf r' (List.mem_of_mem_drop (List.mem_of_mem_take hr')) u hu
      rw [scal_deep hs]; exact hs) (fun i c v hv => (hcv i c v hv).1) (fun i c v hv => (hcv i c v hv).2)
    rw [hlen] at this
    exact this

theorem deepRows_flat {xs : List (List AV)} (h : ∀ r ∈ xs, ∀ v ∈ r, v.scal = true) : AV.deepRows xs = xs := by
  rw [deepRows_map]
  conv => rhs; rw [← List.map_id xs]
  refine List.map_congr_left fun r hr => ?_
  conv => rhs; rw [id_eq, ← List.map_id r]
  exact List.map_congr_left fun v hv => scal_deep (h r hr v hv)

theorem flat_scal {lv s : Nat} {b : Blk} {p : Path} {ys : List (List AV)} (hW : WRel w0 M R S g w) (hb : S.blk lv s = some b) (hbox : b.box = false) (hfl : b.fl = true) (hn : navE b.elems p = some ys) : ∀ r ∈ ys, ∀ v ∈ r, v.scal = true := by
  intro r hr v hv
  obtain ⟨i, hi⟩ := List.getElem?_of_mem hr
  obtain ⟨c, hc⟩ := List.getElem?_of_mem hv
  obtain ⟨d1, d2, d3⟩ := hW.cont lv s b p ys hb hn
  have hcell : cellAt ys i c = some v := by rw [cellAt_row hi]; exact hc
  cases hB : g.θ lv s p with
  | none => rw [hB] at d3; rw [d3] at hcell; simp [cellAt] at hcell
  | some B =>
    rw [hB] at d3
    obtain ⟨arr, ty, fz, a1, a2, a3, a4, a5⟩ := d3
    obtain ⟨cv, c1, c2⟩ := a5 _ _ _ hcell
    cases v with
    | own fl zs => have := c2.2.1; rw [hfl] at this; cases this
    | _ => exact c2.2 hbox

theorem mapO_get {f : AV → Option AV} : ∀ {l l' : List AV}, mapO f l = some l' → l'.length = l.length ∧ ∀ (i : Nat) (v : AV), l'[i]? = some v → ∃ u, l[i]? = some u ∧ f u = some v
  | [], l', h => by simp [mapO] at h; subst h; exact ⟨rfl, fun i v h => by simp at h⟩
  | u :: r, l', h => by
    simp only [mapO] at h
    split at h
    · rename_i v' r' h1 h2
      cases h
      obtain ⟨a1, a2⟩ := mapO_get h2
      refine ⟨by simp [a1], fun i v hv => ?_⟩
      cases i with
      | zero => simp at hv; subst hv; exact ⟨u, by simp, h1⟩
      | succ i => simpa using a2 i v (by simpa using hv)
    · cases h

/-- What a call is handed by value. -/
theorem reify_rd (hR : RdW w0 M R) (hW : WRel w0 M R S g w) : ∀ (n : Nat) (v v' : AV) (cv : Value), reify S n v = some v' → VRel S g (stab w0 R) v cv → Rd (stab w (allB w)) v' cv
  | 0, v, v', cv, h, hv => by simp [reify] at h
  | n + 1, v, v', cv, h, hv => by
    cases v with
    | int k m => simp [reify] at h; subst h; rw [hv.int_inv]; exact .int _ _
    | bool b => simp [reify] at h; subst h; rw [hv.bool_inv]; exact .bool _
    | str s => simp [reify] at h; subst h; rw [hv.str_inv]; exact .str _
    | nil fl sz => simp [reify] at h; subst h; rw [hv.nil_inv]; exact .rd fl [] none 0 0 (fun _ _ => undef) (Nat.le_refl _) (fun r hr => by simp at hr) (fun _ r hr => by simp at hr) (fun i c v h => by simp [cellAt] at h) (fun i c v h => by simp [cellAt] at h)
    | rd fl xs => simp [reify] at h; subst h; exact hv.rd_inv.toW hR hW
    | own fl xs => simp [reify] at h
    | rptr cs => simp [reify] at h; subst h; exact hv.rptr_inv.toW hR hW
    | tup xs => simp [reify] at h
    | skp => simp [reify] at h
    | undef => simp [reify] at h; subst h; exact .undef _
    | agg cs =>
      simp only [reify] at h
      split at h
      · rename_i cs' hm
        cases h
        obtain ⟨arr, rfl, hl, hr⟩ := hv.agg_inv
        obtain ⟨m1, m2⟩ := mapO_get hm
        refine .agg cs' arr (by rw [m1, hl]) fun i v hvi => ?_
        obtain ⟨u, hu, hf⟩ := m2 i v hvi
        exact reify_rd hR hW n u v _ hf (hr i u hu)
      · cases h
    | fn f cs =>
      simp only [reify] at h
      split at h
      · rename_i cs' hm
        cases h
        obtain ⟨arr, rfl, hl, hr⟩ := hv.fn_inv
        obtain ⟨m1, m2⟩ := mapO_get hm
        refine .fn f cs' arr (by rw [m1, hl]) fun i v hvi => ?_
        obtain ⟨u, hu, hf⟩ := m2 i v hvi
        exact reify_rd hR hW n u v _ hf (hr i u hu)
      · cases h
    | sl lv s ver p off len =>
      simp only [reify] at h
      split at h
      · rename_i b ys hat
        split at h
        · rename_i hc
          cases h
          obtain ⟨hb, hver, hn⟩ := at_blk hat
          obtain ⟨A, cap, rfl, c1, c2, c3⟩ := hv.sl_inv.2 b ys hat
          have h3 : (match g.θ lv s p with | some B => cap = 0 ∨ A = some ⟨B, off * csz b.sz p ys, none⟩ | none => A = none ∧ cap = 0) := by
            cases hB : g.θ lv s p with
            | none => rw [hB] at c3; exact c3
            | some B => rw [hB] at c3; exact c3.1
          by_cases hfl : b.fl = true
          · have hs := flat_scal hW hb hc.2 hfl hn
            have := own_rd (fl := b.fl) hW hb hc.2 (SizeOf.sizeOf ys + 1) p ys off len cap A (by omega) hn (fun _ => hs) c1 c2 h3
            rw [deepRows_flat (fun r hr => hs r (List.mem_of_mem_drop (List.mem_of_mem_take hr)))] at this
            rw [if_pos hfl]; exact this
          · have := own_rd (fl := b.fl) hW hb hc.2 (SizeOf.sizeOf ys + 1) p ys off len cap A (by omega) hn (fun h => absurd h hfl) c1 c2 h3
            rw [if_neg hfl]; exact this
        · cases h
      · cases h
    | ptr lv s ver p i c =>
      simp only [reify] at h
      split at h
      · rename_i b ys hat
        split at h
        · rename_i row hrow
          split at h
          · rename_i hc
            obtain ⟨B, arr, ty, fz, rfl, hB, a1, a2, a3, a4, a5, a6, a7⟩ := own_cells (n := row.length - c) hW hat hrow (by omega) (hv.ptr_inv.2 b ys hat)
            obtain ⟨hb, hver, hn⟩ := at_blk hat
            have build : ∀ cs : List AV, cs.length = row.length - c → (∀ j v, cs[j]? = some v → ∃ u x, row[c + j]? = some u ∧ arr[i * csz b.sz p ys + (c + j)]? = some x ∧ Rd (stab w (allB w)) v x) → Rd (stab w (allB w)) (.rptr cs) (.pointer (some ⟨B, i * csz b.sz p ys + c, none⟩)) := by
              intro cs hl hcs
              refine .rptr _ cs (fun j => arr.getD (i * csz b.sz p ys + (c + j)) undef) (fun j v hv' => ?_) (fun j v hv' => ?_)
              · obtain ⟨u, x, e1, e2, e3⟩ := hcs j v hv'
                refine stab_all _ _ ?_
                rw [Addr.add_lit, blk_cell' a1, Nat.add_assoc, e2]
                simp [e2]
              · obtain ⟨u, x, e1, e2, e3⟩ := hcs j v hv'
                simpa [e2] using e3
            split at h
            · rename_i hbox
              split at h
              · rename_i cs hm
                cases h
                obtain ⟨m1, m2⟩ := mapO_get hm
                rw [mapRs_map] at m1 m2
                refine build cs (by rw [m1]; simp) fun j v hvj => ?_
                obtain ⟨u', hu', hf⟩ := m2 j v hvj
                rw [List.getElem?_map, List.getElem?_drop] at hu'
                obtain ⟨u, hu, rfl⟩ := Option.map_eq_some_iff.1 hu'
                have hj : j < row.length - c := by have := (List.getElem?_eq_some_iff.1 hu).1; omega
                obtain ⟨x, x1, x2⟩ := a7 j u hj hu
                have hown : ∀ fl zs, u ≠ .own fl zs := fun fl zs he => by subst he; have := x2.1; rw [hbox] at this; cases this
                refine ⟨u, x, hu, x1, reify_rd hR hW n _ v x hf ?_⟩
                cases u <;> first | exact absurd rfl (hown _ _) | exact x2.1
              · cases h
            · rename_i hbox
              cases h
              refine build _ (by rw [deepRow_map]; simp) fun j v hvj => ?_
              rw [deepRow_map, List.getElem?_map, List.getElem?_drop] at hvj
              cases hu : row[c + j]? with
              | none => simp [hu] at hvj
              | some u =>
                simp only [hu, Option.map_some, Option.some.injEq] at hvj
                have hj : j < row.length - c := by have := (List.getElem?_eq_some_iff.1 hu).1; omega
                obtain ⟨x, x1, x2⟩ := a7 j u hj hu
                refine ⟨u, x, rfl, x1, ?_⟩
                subst hvj
                have hbox' : b.box = false := by simpa using hbox
                have hcell : cellAt ys i (c + j) = some u := by rw [cellAt_row hrow]; exact hu
                clear hu
                cases u with
                | own fl' zs =>
                  obtain ⟨k1, k2, k3, A', cap', rfl, k4, k5⟩ := x2
                  have := own_rd hW hb hbox' (SizeOf.sizeOf zs + 1) (p ++ [(i, c + j)]) zs 0 zs.length cap' A' fl' (by omega) (navE_append hn (by simp [navE, hcell])) k3 k4 (by simp) (by
                    cases hB' : g.θ lv s (p ++ [(i, c + j)]) with
                    | none => rw [hB'] at k5; exact k5
                    | some B' => rw [hB'] at k5; simpa using k5)
                  simpa [AV.deep] using this
                | _ => rw [scal_deep (x2.2 hbox')]; exact scal_rd (x2.2 hbox') (by have := x2.1; rwa [scal_mapR (x2.2 hbox')] at this)
          · cases h
        · cases h
      · cases h
end
end Go.Ae
