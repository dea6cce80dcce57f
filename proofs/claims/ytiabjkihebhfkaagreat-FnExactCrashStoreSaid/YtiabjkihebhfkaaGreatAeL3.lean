/- What a call is handed, by value. -/
import Derived.Test.YtiabjkihebhfkaaGreatAeL2
import Derived.Deep.Upon
namespace Go.Ae
open Go.RowKit
set_option linter.unusedVariables false
set_option linter.unusedSimpArgs false
section
variable {P : Program} {w w0 : World} {M : Nat → Nat → Path → Option Nat} {R : Nat → Prop} {S : St} {g : G} {a : Act} {o : Oper}

theorem Rd.mono {cell cell' : Addr → Option Value} (h : ∀ ad v, cell ad = some v → cell' ad = some v) {v : AV} {cv : Value} (k : Rd cell v cv) : Rd cell' v cv := by
  induction k with
  | int k n => exact .int k n
  | bool b => exact .bool b
  | str s => exact .str s
  | undef v => exact .undef v
  | rd fl xs A cap sz cv h2 hsz hfl hc hr ih => exact .rd fl xs A cap sz cv h2 hsz hfl (fun i c v hv => by obtain ⟨ad, h1, h3⟩ := hc i c v hv; exact ⟨ad, h1, h _ _ h3⟩) ih
  | rptr ad cs cv hc hr ih => exact .rptr ad cs cv (fun c v hv => h _ _ (hc c v hv)) ih
  | fn f cs arr hl hr ih => exact .fn f cs arr hl ih
  | agg cs arr hl hr ih => exact .agg cs arr hl ih

theorem deepRow_map : ∀ r : List AV, AV.deepRow r = r.map AV.deep
  | [] => rfl
  | v :: r => by simp [AV.deepRow, deepRow_map r]
theorem deepRows_map : ∀ xs : List (List AV), AV.deepRows xs = xs.map fun r => r.map AV.deep
  | [] => rfl
  | r :: xs => by simp [AV.deepRows, deepRows_map xs, deepRow_map]
theorem cellAt_deep {xs : List (List AV)} {i c : Nat} : cellAt (AV.deepRows xs) i c = (cellAt xs i c).map AV.deep := by
  unfold cellAt
  rw [deepRows_map, List.getElem?_map]
  cases xs[i]? <;> simp
theorem scal_deep {v : AV} (h : v.scal = true) : v.deep = v := by cases v <;> first | rfl | simp [AV.scal] at h

/-- The world's cells, all of them. -/
def allB (w : World) (B : Nat) : Prop := B < w.heap.size
theorem stab_all (ad : Addr) (v : Value) (h : w.cell? ad = some v) : stab w (allB w) ad = some v := by
  unfold stab
  rw [if_pos (show allB w ad.block from World.block_lt_of_cell? w ad h)]; exact h
theorem Rd.toW (hR : RdW w0 M R) (hW : WRel w0 M R S g w) {v : AV} {cv : Value} (h : Rd (stab w0 R) v cv) : Rd (stab w (allB w)) v cv := h.mono fun ad u hu => stab_all ad u (stab_cell hR hW hu)

theorem scal_rd {cell cell' : Addr → Option Value} {v : AV} {cv : Value} (hs : v.scal = true) (h : VRel S g cell v cv) : Rd cell' v cv := by
  cases v <;> simp [AV.scal] at hs
  · rw [h.int_inv]; exact .int _ _
  · rw [h.bool_inv]; exact .bool _
  · rw [h.str_inv]; exact .str _

theorem sizeOf_cell {ys : List (List AV)} {i c : Nat} {fl : Bool} {zs : List (List AV)} (h : cellAt ys i c = some (.own fl zs)) : SizeOf.sizeOf zs < SizeOf.sizeOf ys := by
  obtain ⟨r, hr, hv⟩ := cellAt_mem h
  have h1 := List.sizeOf_lt_of_mem hr
  have h2 := List.sizeOf_lt_of_mem hv
  have h3 : SizeOf.sizeOf (AV.own fl zs) = 1 + SizeOf.sizeOf fl + SizeOf.sizeOf zs := by simp
  omega

/-- A part of a row of one's own, read. -/
theorem own_rd {lv s : Nat} {b : Blk} (hW : WRel w0 M R S g w) (hb : S.blk lv s = some b) (hbox : b.box = false) : ∀ (N : Nat) (p : Path) (ys : List (List AV)) (off len cap : Nat) (A : Option Addr) (fl : Bool), SizeOf.sizeOf ys < N → navE b.elems p = some ys →
    (fl = true → ∀ r ∈ ys, ∀ v ∈ r, v.scal = true) → len ≤ cap → off + len ≤ ys.length →
    (len ≠ 0 → match g.θ lv s p with | some B => cap = 0 ∨ A = some ⟨B, off * csz b.sz p ys, none⟩ | none => A = none ∧ cap = 0) → Rd (stab w (allB w)) (.rd fl (AV.deepRows ((ys.drop off).take len))) (.slice A len cap)
  | 0, p, ys, off, len, cap, A, fl, hN, hn, hfl, h1, h2, h3 => by omega
  | N + 1, p, ys, off, len, cap, A, fl, hN, hn, hfl, h1, h2, h3 => by
    obtain ⟨d1, d2, d3⟩ := hW.cont lv s b p ys hb hn
    have hlen : (AV.deepRows ((ys.drop off).take len)).length = len := by rw [deepRows_map]; simp; omega
    have key : ∀ i c v, cellAt (AV.deepRows ((ys.drop off).take len)) i c = some v → ∃ u, cellAt ys (off + i) c = some u ∧ v = u.deep ∧ i < len := by
      intro i c v hv
      rw [cellAt_deep] at hv
      cases hu : cellAt ((ys.drop off).take len) i c with
      | none => simp [hu] at hv
      | some u =>
        simp only [hu, Option.map_some, Option.some.injEq] at hv
        refine ⟨u, ?_, hv.symm, ?_⟩
        · unfold cellAt at hu ⊢
          rw [List.getElem?_take, List.getElem?_drop] at hu
          by_cases hi : i < len
          · rw [if_pos hi] at hu; exact hu
          · rw [if_neg hi] at hu; cases hu
        · unfold cellAt at hu
          rw [List.getElem?_take] at hu
          by_cases hi : i < len
          · exact hi
          · rw [if_neg hi] at hu; cases hu
    have hex : ∀ i c v, ∃ cv, cellAt (AV.deepRows ((ys.drop off).take len)) i c = some v → (∃ ad, A = some ad ∧ stab w (allB w) (ad.add (i * csz b.sz p ys + c)) = some cv) ∧ Rd (stab w (allB w)) v cv := by
      intro i c v
      by_cases hv : cellAt (AV.deepRows ((ys.drop off).take len)) i c = some v
      · obtain ⟨u, hu, rfl, hi⟩ := key i c v hv
        cases hB : g.θ lv s p with
        | none =>
          rw [hB] at d3; rw [d3] at hu; simp [cellAt] at hu
        | some B =>
          replace h3 := h3 (by omega)
          rw [hB] at d3 h3
          obtain ⟨arr, ty, fz, a1, a2, a3, a4, a5⟩ := d3
          obtain ⟨cv, c1, c2⟩ := a5 _ _ _ hu
          refine ⟨cv, fun _ => ⟨⟨_, h3.resolve_left (by omega), ?_⟩, ?_⟩⟩
          · refine stab_all _ _ ?_
            rw [Addr.add_lit, blk_cell' a1]
            have e : off * csz b.sz p ys + (i * csz b.sz p ys + c) = (off + i) * csz b.sz p ys + c := by rw [Nat.add_mul]; omega
            rw [e]; exact c1
          · have hu0 := hu
            clear hv
            cases u with
            | own fl' zs =>
              obtain ⟨k1, k2, k3, A', cap', rfl, k4, k5⟩ := c2
              have hsub := own_rd hW hb hbox N (p ++ [(off + i, c)]) zs 0 zs.length cap' A' fl' (by have := sizeOf_cell hu; omega) (navE_append hn (by simp [navE, hu])) k3 k4 (by simp) (fun _ => by
                cases hB' : g.θ lv s (p ++ [(off + i, c)]) with
                | none => rw [hB'] at k5; exact k5
                | some B' => rw [hB'] at k5; simpa using k5)
              simpa [AV.deep] using hsub
            | _ => rw [scal_deep (c2.2 hbox)]; exact scal_rd (c2.2 hbox) (by have := c2.1; rwa [scal_mapR (c2.2 hbox)] at this)
      · exact ⟨undef, fun h => absurd h hv⟩
    have hcv : ∃ cv : Nat → Nat → Value, ∀ i c v, cellAt (AV.deepRows ((ys.drop off).take len)) i c = some v → (∃ ad, A = some ad ∧ stab w (allB w) (ad.add (i * csz b.sz p ys + c)) = some (cv i c)) ∧ Rd (stab w (allB w)) v (cv i c) := by
      have hex' : ∀ i c, ∃ cv, ∀ v, cellAt (AV.deepRows ((ys.drop off).take len)) i c = some v → (∃ ad, A = some ad ∧ stab w (allB w) (ad.add (i * csz b.sz p ys + c)) = some cv) ∧ Rd (stab w (allB w)) v cv := fun i c => by
        cases hv : cellAt (AV.deepRows ((ys.drop off).take len)) i c with
        | none => exact ⟨undef, fun v h => by cases h⟩
        | some v =>
          obtain ⟨cv, h⟩ := hex i c v
          exact ⟨cv, fun v' hv' => by cases hv'; exact h hv⟩
      exact ⟨fun i c => Classical.choose (hex' i c), fun i c v hv => Classical.choose_spec (hex' i c) v hv⟩
    obtain ⟨cv, hcv⟩ := hcv
    have := Rd.rd (cell := stab w (allB w)) fl (AV.deepRows ((ys.drop off).take len)) A cap (csz b.sz p ys) cv (by rw [hlen]; exact h1) (fun r hr => by
      rw [deepRows_map, List.mem_map] at hr
      obtain ⟨r', hr', rfl⟩ := hr
      rw [List.length_map]
      exact d1 r' (List.mem_of_mem_drop (List.mem_of_mem_take hr'))) (fun hf r hr v hv => by
      rw [deepRows_map, List.mem_map] at hr
      obtain ⟨r', hr', rfl⟩ := hr
      rw [List.mem_map] at hv
      obtain ⟨u, hu, rfl⟩ := hv
      have hs := hfl hf r' (List.mem_of_mem_drop (List.mem_of_mem_take hr')) u hu
      rw [scal_deep hs]; exact hs) (fun i c v hv => (hcv i c v hv).1) (fun i c v hv => (hcv i c v hv).2)
    rw [hlen] at this
    exact this

theorem deepRows_flat {xs : List (List AV)} (h : ∀ r ∈ xs, ∀ v ∈ r, v.scal = true) : AV.deepRows xs = xs := by
  rw [deepRows_map]
  conv => rhs; rw [← List.map_id xs]
  refine List.map_congr_left fun r hr => ?_
  conv => rhs; rw [id_eq, ← List.map_id r]
  exact List.map_congr_left fun v hv => scal_deep (h r hr v hv)

theorem flat_scal {lv s : Nat} {b : Blk} {p : Path} {ys : List (List AV)} (hW : WRel w0 M R S g w) (hb : S.blk lv s = some b) (hbox : b.box = false) (hfl : b.fl = true) (hn : navE b.elems p = some ys) : ∀ r ∈ ys, ∀ v ∈ r, v.scal = true := by
  intro r hr v hv
  obtain ⟨i, hi⟩ := List.getElem?_of_mem hr
  obtain ⟨c, hc⟩ := List.getElem?_of_mem hv
  obtain ⟨d1, d2, d3⟩ := hW.cont lv s b p ys hb hn
  have hcell : cellAt ys i c = some v := by rw [cellAt_row hi]; exact hc
  cases hB : g.θ lv s p with
  | none => rw [hB] at d3; rw [d3] at hcell; simp [cellAt] at hcell
  | some B =>
    rw [hB] at d3
    obtain ⟨arr, ty, fz, a1, a2, a3, a4, a5⟩ := d3
    obtain ⟨cv, c1, c2⟩ := a5 _ _ _ hcell
    cases v with
    | own fl zs => have := c2.2.1; rw [hfl] at this; cases this
    | _ => exact c2.2 hbox

theorem mapO_get {f : AV → Option AV} : ∀ {l l' : List AV}, mapO f l = some l' → l'.length = l.length ∧ ∀ (i : Nat) (v : AV), l'[i]? = some v → ∃ u, l[i]? = some u ∧ f u = some v
  | [], l', h => by simp [mapO] at h; subst h; exact ⟨rfl, fun i v h => by simp at h⟩
  | u :: r, l', h => by
    simp only [mapO] at h
    split at h
    · rename_i v' r' h1 h2
      cases h
      obtain ⟨a1, a2⟩ := mapO_get h2
      refine ⟨by simp [a1], fun i v hv => ?_⟩
      cases i with
      | zero => simp at hv; subst hv; exact ⟨u, by simp, h1⟩
      | succ i => simpa using a2 i v (by simpa using hv)
    · cases h

/-- What a call is handed by value. -/
theorem reify_rd (hR : RdW w0 M R) (hW : WRel w0 M R S g w) : ∀ (n : Nat) (v v' : AV) (cv : Value), reify S n v = some v' → VRel S g (stab w0 R) v cv → Rd (stab w (allB w)) v' cv
  | 0, v, v', cv, h, hv => by simp [reify] at h
  | n + 1, v, v', cv, h, hv => by
    cases v with
    | int k m => simp [reify] at h; subst h; rw [hv.int_inv]; exact .int _ _
    | bool b => simp [reify] at h; subst h; rw [hv.bool_inv]; exact .bool _
    | str s => simp [reify] at h; subst h; rw [hv.str_inv]; exact .str _
    | nil fl sz => simp [reify] at h; subst h; rw [hv.nil_inv]; exact .rd fl [] none 0 0 (fun _ _ => undef) (Nat.le_refl _) (fun r hr => by simp at hr) (fun _ r hr => by simp at hr) (fun i c v h => by simp [cellAt] at h) (fun i c v h => by simp [cellAt] at h)
    | rd fl xs => simp [reify] at h; subst h; exact hv.rd_inv.toW hR hW
    | own fl xs => simp [reify] at h
    | rptr cs => simp [reify] at h; subst h; exact hv.rptr_inv.toW hR hW
    | tup xs => simp [reify] at h
    | skp => simp [reify] at h
    | undef => simp [reify] at h; subst h; exact .undef _
    | agg cs =>
      simp only [reify] at h
      split at h
      · rename_i cs' hm
        cases h
        obtain ⟨arr, rfl, hl, hr⟩ := hv.agg_inv
        obtain ⟨m1, m2⟩ := mapO_get hm
        refine .agg cs' arr (by rw [m1, hl]) fun i v hvi => ?_
        obtain ⟨u, hu, hf⟩ := m2 i v hvi
        exact reify_rd hR hW n u v _ hf (hr i u hu)
      · cases h
    | fn f cs =>
      simp only [reify] at h
      split at h
      · rename_i cs' hm
        cases h
        obtain ⟨arr, rfl, hl, hr⟩ := hv.fn_inv
        obtain ⟨m1, m2⟩ := mapO_get hm
        refine .fn f cs' arr (by rw [m1, hl]) fun i v hvi => ?_
        obtain ⟨u, hu, hf⟩ := m2 i v hvi
        exact reify_rd hR hW n u v _ hf (hr i u hu)
      · cases h
    | sl lv s ver p off len =>
      simp only [reify] at h
      split at h
      · rename_i b ys hat
        split at h
        · rename_i hc
          cases h
          obtain ⟨hb, hver, hn⟩ := at_blk hat
          obtain ⟨A, cap, rfl, c1, c2, c3⟩ := hv.sl_inv.2 b ys hat
          have h3 : len ≠ 0 → (match g.θ lv s p with | some B => cap = 0 ∨ A = some ⟨B, off * csz b.sz p ys, none⟩ | none => A = none ∧ cap = 0) := fun hx => by
            replace c3 := c3 (.inr hx)
            cases hB : g.θ lv s p with
            | none => rw [hB] at c3; exact c3
            | some B => rw [hB] at c3; exact c3.1
          by_cases hfl : b.fl = true
          · have hs := flat_scal hW hb hc.2 hfl hn
            have := own_rd (fl := b.fl) hW hb hc.2 (SizeOf.sizeOf ys + 1) p ys off len cap A (by omega) hn (fun _ => hs) c1 c2 h3
            rw [deepRows_flat (fun r hr => hs r (List.mem_of_mem_drop (List.mem_of_mem_take hr)))] at this
            rw [if_pos hfl]; exact this
          · have := own_rd (fl := b.fl) hW hb hc.2 (SizeOf.sizeOf ys + 1) p ys off len cap A (by omega) hn (fun h => absurd h hfl) c1 c2 h3
            rw [if_neg hfl]; exact this
        · cases h
      · cases h
    | ptr lv s ver p i c =>
      simp only [reify] at h
      split at h
      · rename_i b ys hat
        split at h
        · rename_i row hrow
          split at h
          · rename_i hc
            obtain ⟨B, arr, ty, fz, rfl, hB, a1, a2, a3, a4, a5, a6, a7⟩ := own_cells (n := row.length - c) hW hat hrow (by omega) (hv.ptr_inv.2 b ys hat)
            obtain ⟨hb, hver, hn⟩ := at_blk hat
            have build : ∀ cs : List AV, cs.length = row.length - c → (∀ j v, cs[j]? = some v → ∃ u x, row[c + j]? = some u ∧ arr[i * csz b.sz p ys + (c + j)]? = some x ∧ Rd (stab w (allB w)) v x) → Rd (stab w (allB w)) (.rptr cs) (.pointer (some ⟨B, i * csz b.sz p ys + c, none⟩)) := by
              intro cs hl hcs
              refine .rptr _ cs (fun j => arr.getD (i * csz b.sz p ys + (c + j)) undef) (fun j v hv' => ?_) (fun j v hv' => ?_)
              · obtain ⟨u, x, e1, e2, e3⟩ := hcs j v hv'
                refine stab_all _ _ ?_
                rw [Addr.add_lit, blk_cell' a1, Nat.add_assoc, e2]
                simp [e2]
              · obtain ⟨u, x, e1, e2, e3⟩ := hcs j v hv'
                simpa [e2] using e3
            split at h
            · rename_i hbox
              split at h
              · rename_i cs hm
                cases h
                obtain ⟨m1, m2⟩ := mapO_get hm
                rw [mapRs_map] at m1 m2
                refine build cs (by rw [m1]; simp) fun j v hvj => ?_
                obtain ⟨u', hu', hf⟩ := m2 j v hvj
                rw [List.getElem?_map, List.getElem?_drop] at hu'
                obtain ⟨u, hu, rfl⟩ := Option.map_eq_some_iff.1 hu'
                have hj : j < row.length - c := by have := (List.getElem?_eq_some_iff.1 hu).1; omega
                obtain ⟨x, x1, x2⟩ := a7 j u hj hu
                have hown : ∀ fl zs, u ≠ .own fl zs := fun fl zs he => by subst he; have := x2.1; rw [hbox] at this; cases this
                refine ⟨u, x, hu, x1, reify_rd hR hW n _ v x hf ?_⟩
                cases u <;> first | exact absurd rfl (hown _ _) | exact x2.1
              · cases h
            · rename_i hbox
              cases h
              refine build _ (by rw [deepRow_map]; simp) fun j v hvj => ?_
              rw [deepRow_map, List.getElem?_map, List.getElem?_drop] at hvj
              cases hu : row[c + j]? with
              | none => simp [hu] at hvj
              | some u =>
                simp only [hu, Option.map_some, Option.some.injEq] at hvj
                have hj : j < row.length - c := by have := (List.getElem?_eq_some_iff.1 hu).1; omega
                obtain ⟨x, x1, x2⟩ := a7 j u hj hu
                refine ⟨u, x, rfl, x1, ?_⟩
                subst hvj
                have hbox' : b.box = false := by simpa using hbox
                have hcell : cellAt ys i (c + j) = some u := by rw [cellAt_row hrow]; exact hu
                clear hu
                cases u with
                | own fl' zs =>
                  obtain ⟨k1, k2, k3, A', cap', rfl, k4, k5⟩ := x2
                  have := own_rd hW hb hbox' (SizeOf.sizeOf zs + 1) (p ++ [(i, c + j)]) zs 0 zs.length cap' A' fl' (by omega) (navE_append hn (by simp [navE, hcell])) k3 k4 (by simp) (fun _ => by
                    cases hB' : g.θ lv s (p ++ [(i, c + j)]) with
                    | none => rw [hB'] at k5; exact k5
                    | some B' => rw [hB'] at k5; simpa using k5)
                  simpa [AV.deep] using this
                | _ => rw [scal_deep (x2.2 hbox')]; exact scal_rd (x2.2 hbox') (by have := x2.1; rwa [scal_mapR (x2.2 hbox')] at this)
          · cases h
        · cases h
      · cases h
end
end Go.Ae
namespace Go.Ae
open Go.RowKit
set_option linter.unusedVariables false
set_option linter.unusedSimpArgs false
section
variable {P : Program} {w w0 : World} {M : Nat → Nat → Path → Option Nat} {R : Nat → Prop} {S : St} {g : G} {a : Act} {o : Oper}

def RenOk (f : Nat → Nat → Nat → Path → Option (Nat × Nat × Nat)) (S1 : St) (g1 : G) (S2 : St) (g2 : G) : Prop := ∀ lv s v p lv' s' v', f lv s v p = some (lv', s', v') → KeyOk S1 lv s v →
  KeyOk S2 lv' s' v' ∧ ∀ b' ys', S2.at lv' s' v' p = some (b', ys') → ∃ b ys, S1.at lv s v p = some (b, ys) ∧ ys.length ≤ ys'.length ∧ b'.sz = b.sz ∧ csz b'.sz p ys' = csz b.sz p ys ∧ g2.θ lv' s' p = g1.θ lv s p ∧ ∀ B, g1.θ lv s p = some B → g2.κ B = g1.κ B

theorem mapRs_get {f : Nat → Nat → Nat → Path → Option (Nat × Nat × Nat)} {cs : List AV} {i : Nat} {v : AV} (h : (AV.mapRs f cs)[i]? = some v) : ∃ u, cs[i]? = some u ∧ v = u.mapR f := by
  rw [mapRs_map, List.getElem?_map] at h
  obtain ⟨u, h1, h2⟩ := Option.map_eq_some_iff.1 h
  exact ⟨u, h1, h2.symm⟩
theorem mapRs_length {f : Nat → Nat → Nat → Path → Option (Nat × Nat × Nat)} (cs : List AV) : (AV.mapRs f cs).length = cs.length := by rw [mapRs_map]; simp

theorem VRel.ren {f : Nat → Nat → Nat → Path → Option (Nat × Nat × Nat)} {S1 S2 : St} {g1 g2 : G} {cell : Addr → Option Value} (h : RenOk f S1 g1 S2 g2) {v : AV} {cv : Value} (k : VRel S1 g1 cell v cv) : VRel S2 g2 cell (v.mapR f) cv := by
  induction k with
  | int k n => exact .int k n
  | bool b => exact .bool b
  | str s => exact .str s
  | nil fl sz => exact .nil fl sz
  | skp => exact .skp
  | undef v => exact .undef v
  | rd fl xs v h => exact .rd fl xs v h
  | rptr cs v h => exact .rptr cs v h
  | sl lv s ver p off len v hk hv hs =>
    simp only [AV.mapR]
    cases hf : f lv s ver p with
    | none => exact .undef _
    | some t =>
      obtain ⟨lv', s', v'⟩ := t
      obtain ⟨h1, h2⟩ := h lv s ver p lv' s' v' hf hk
      refine .sl _ _ _ _ _ _ _ h1 hv fun b' ys' hat => ?_
      obtain ⟨b, ys, e1, e2, e3, e4, e5, e6⟩ := h2 b' ys' hat
      exact (hs b ys e1).move' e3 e2 e4 e5 e6
  | ptr lv s ver p i c v hk hv hs =>
    simp only [AV.mapR]
    cases hf : f lv s ver p with
    | none => exact .undef _
    | some t =>
      obtain ⟨lv', s', v'⟩ := t
      obtain ⟨h1, h2⟩ := h lv s ver p lv' s' v' hf hk
      refine .ptr _ _ _ _ _ _ _ h1 hv fun b' ys' hat => ?_
      obtain ⟨b, ys, e1, e2, e3, e4, e5, e6⟩ := h2 b' ys' hat
      obtain ⟨q0, B, q1, q2⟩ := hs b ys e1
      exact ⟨fun hp => Nat.lt_of_lt_of_le (q0 hp) e2, B, e5.trans q1, by rw [e4]; exact q2⟩
  | agg cs arr hl _ ih => exact .agg _ arr (by rw [mapRs_length]; exact hl) fun i v hv => by obtain ⟨u, hu, rfl⟩ := mapRs_get hv; exact ih i u hu
  | fn f' cs arr hl _ ih => exact .fn f' _ arr (by rw [mapRs_length]; exact hl) fun i v hv => by obtain ⟨u, hu, rfl⟩ := mapRs_get hv; exact ih i u hu
  | tup cs arr hl _ ih => exact .tup _ arr (by rw [mapRs_length]; exact hl) fun i v hv => by obtain ⟨u, hu, rfl⟩ := mapRs_get hv; exact ih i u hu

/-! ### What is only read may be told of other cells where there is none of it -/
theorem bearss_get : ∀ {cs : List AV} {i : Nat} {v : AV}, AV.bearss cs = false → cs[i]? = some v → v.bears = false
  | [], i, v, h, hv => by simp at hv
  | u :: r, i, v, h, hv => by
    simp only [AV.bearss, Bool.or_eq_false_iff] at h
    cases i with
    | zero => simp at hv; subst hv; exact h.1
    | succ i => exact bearss_get h.2 (by simpa using hv)
theorem VRel.cell {cell cell' : Addr → Option Value} {v : AV} {cv : Value} (k : VRel S g cell v cv) : v.bears = false → VRel S g cell' v cv := by
  induction k with
  | int k n => intro _; exact .int k n
  | bool b => intro _; exact .bool b
  | str s => intro _; exact .str s
  | nil fl sz => intro _; exact .nil fl sz
  | skp => intro _; exact .skp
  | undef v => intro _; exact .undef v
  | rd fl xs v h => intro hb; simp [AV.bears] at hb
  | rptr cs v h => intro hb; simp [AV.bears] at hb
  | sl lv s ver p off len v hk hv hs => intro _; exact .sl lv s ver p off len v hk hv hs
  | ptr lv s ver p i c v hk hv hs => intro _; exact .ptr lv s ver p i c v hk hv hs
  | agg cs arr hl _ ih => intro hb; simp only [AV.bears] at hb; exact .agg cs arr hl fun i v hv => ih i v hv (bearss_get hb hv)
  | fn f cs arr hl _ ih => intro hb; simp only [AV.bears] at hb; exact .fn f cs arr hl fun i v hv => ih i v hv (bearss_get hb hv)
  | tup cs arr hl _ ih => intro hb; simp only [AV.bears] at hb; exact .tup cs arr hl fun i v hv => ih i v hv (bearss_get hb hv)

/-! ### Many new places at once -/
structure News (S S' : St) (nb : Nat → Option Blk) : Prop where
  get : ∀ lv t, (S'.heap lv).get t = if lv = 0 then (match nb t with | some b => some (some b) | none => S.loc.get t) else (S.heap lv).get t
  free : ∀ t b, nb t = some b → S.loc.get t = none
theorem News.blk {S S' : St} {nb : Nat → Option Blk} (h : News S S' nb) (lv t : Nat) : S'.blk lv t = if lv = 0 then (match nb t with | some b => some b | none => S.blk 0 t) else S.blk lv t := by
  unfold St.blk
  rw [h.get]
  by_cases hl : lv = 0
  · subst hl
    simp only [if_true]
    cases nb t <;> rfl
  · simp only [hl, if_false]
def G.adds (g : G) (nb : Nat → Option Blk) (t : Nat → Path → Option Nat) (κ : Nat → Nat) : G := { θ := fun lv s p => if lv = 0 ∧ (nb s).isSome = true then t s p else g.θ lv s p, κ }
theorem adds_θ (g : G) (nb : Nat → Option Blk) (t : Nat → Path → Option Nat) (κ : Nat → Nat) (lv s : Nat) (p : Path) : (g.adds nb t κ).θ lv s p = if lv = 0 ∧ (nb s).isSome = true then t s p else g.θ lv s p := rfl

theorem ExtS.news {S S' : St} {nb : Nat → Option Blk} (hn : News S S' nb) (t : Nat → Path → Option Nat) {κ : Nat → Nat} (hκ : ∀ lv s p B, g.θ lv s p = some B → κ B = g.κ B) : ExtS S g S' (g.adds nb t κ) := by
  intro lv s ob hob
  have hne : ¬ (lv = 0 ∧ (nb s).isSome = true) := by
    rintro ⟨rfl, h2⟩
    obtain ⟨b, hb⟩ := Option.isSome_iff_exists.1 h2
    have := hn.free s b hb
    rw [show S.heap 0 = S.loc from rfl, this] at hob
    cases hob
  refine ⟨ob, ?_, fun b' hb' => ⟨b', hb', Nat.le_refl _, fun _ => ⟨rfl, fun p ys hp => ⟨ys, hp, Nat.le_refl _, rfl, ?_, fun B hB => hκ _ _ _ B hB⟩⟩⟩⟩
  · rw [hn.get]
    by_cases hl : lv = 0
    · subst hl
      have : nb s = none := by cases hs : nb s with
        | none => rfl
        | some b => exact absurd ⟨rfl, by rw [hs]; rfl⟩ hne
      simp only [if_true, this]; exact hob
    · simp only [hl, if_false]; exact hob
  · rw [adds_θ, if_neg hne]
theorem Ext.news {S S' : St} {nb : Nat → Option Blk} (hn : News S S' nb) (t : Nat → Path → Option Nat) {κ : Nat → Nat} (hκ : ∀ lv s p B, g.θ lv s p = some B → κ B = g.κ B) : Ext S g S' (g.adds nb t κ) := (ExtS.news hn t hκ).ext

theorem WRel.extends (h : WRel w0 M R S g w) {S' : St} {nb : Nat → Option Blk} (hn : News S S' nb) (t : Nat → Path → Option Nat) (κ : Nat → Nat)
    (hκ : ∀ lv s p B, g.θ lv s p = some B → κ B = g.κ B) (ht : ∀ s p B, (nb s).isSome = true → t s p = some B → w0.heap.size ≤ B ∧ B < w.heap.size ∧ ∀ lv s p, g.θ lv s p ≠ some B)
    (htinj : ∀ s p s' q B, t s p = some B → t s' q = some B → s = s' ∧ p = q)
    (hcont : ∀ s b p ys, nb s = some b → navE b.elems p = some ys → Cont (stab w0 R) S' (g.adds nb t κ) w 0 s b p ys) : WRel w0 M R S' (g.adds nb t κ) w where
  os := h.os
  tape := h.tape
  output := h.output
  size := h.size
  keep := h.keep
  rng := fun lv s' p B hB => by
    rw [adds_θ] at hB
    by_cases hc : lv = 0 ∧ (nb s').isSome = true
    · rw [if_pos hc] at hB; exact (ht _ p B hc.2 hB).2.1
    · rw [if_neg hc] at hB; exact h.rng _ _ _ _ hB
  fresh := fun s' p B hB => by
    rw [adds_θ] at hB
    by_cases hc : (0 : Nat) = 0 ∧ (nb s').isSome = true
    · rw [if_pos hc] at hB; exact (ht _ p B hc.2 hB).1
    · rw [if_neg hc] at hB; exact h.fresh _ _ _ hB
  ext := fun lv s' p B hB => by
    rw [adds_θ] at hB
    rw [if_neg (by omega)] at hB
    exact h.ext _ _ _ _ hB
  inj := fun lv s1 p lv' s2 q B h1 h2 => by
    rw [adds_θ] at h1 h2
    by_cases hc : lv = 0 ∧ (nb s1).isSome = true <;> by_cases hd : lv' = 0 ∧ (nb s2).isSome = true
    · rw [if_pos hc] at h1; rw [if_pos hd] at h2
      obtain ⟨e1, e2⟩ := htinj _ _ _ _ B h1 h2
      exact ⟨hc.1.trans hd.1.symm, e1, e2⟩
    · rw [if_pos hc] at h1; rw [if_neg hd] at h2
      exact absurd h2 ((ht _ p B hc.2 h1).2.2 _ _ _)
    · rw [if_neg hc] at h1; rw [if_pos hd] at h2
      exact absurd h1 ((ht _ q B hd.2 h2).2.2 _ _ _)
    · rw [if_neg hc] at h1; rw [if_neg hd] at h2
      exact h.inj _ _ _ _ _ _ B h1 h2
  cont := fun lv s' b' p ys hb hp => by
    rw [hn.blk] at hb
    have old : ¬ (lv = 0 ∧ (nb s').isSome = true) → S.blk lv s' = some b' → Cont (stab w0 R) S' (g.adds nb t κ) w lv s' b' p ys := fun hc hb =>
      (h.cont lv s' b' p ys hb hp).mono (Ext.news hn t hκ) (fun q => by rw [adds_θ, if_neg hc]) (fun B hB => ⟨rfl, hκ _ _ _ B hB⟩)
    by_cases hl : lv = 0
    · subst hl
      simp only [if_true] at hb
      cases hs : nb s' with
      | some b => rw [hs] at hb; cases hb; exact hcont s' b' p ys hs hp
      | none => rw [hs] at hb; exact old (by rw [hs]; simp) hb
    · rw [if_neg hl] at hb; exact old (fun h => hl h.1) hb
end
end Go.Ae
namespace Go.Ae
open Go.RowKit
set_option linter.unusedVariables false
set_option linter.unusedSimpArgs false
section
variable {P : Program} {w w0 : World} {M : Nat → Nat → Path → Option Nat} {R : Nat → Prop} {S : St} {g : G} {a : Act} {o : Oper}

def nbOf (base : Nat) (l : List Blk) (t : Nat) : Option Blk := if base ≤ t then l[t - base]? else none

theorem addNews_numbered : ∀ {l : List Blk} {base : Nat} {S S' : St}, addNews S (numbered base l) = some S' → News S S' (nbOf base l)
  | [], base, S, S', h => by
    simp [numbered, addNews] at h; subst h
    refine ⟨fun lv t => ?_, fun t b h => by simp [nbOf] at h⟩
    by_cases hl : lv = 0
    · subst hl; simp [nbOf]; rfl
    · simp [hl]
  | b :: r, base, S, S', h => by
    obtain ⟨S1, h1, h2⟩ := addNews_cons (show addNews S ((base, b) :: numbered (base + 1) r) = some S' from h)
    have ih := addNews_numbered h2
    have hnb : ∀ t, nbOf base (b :: r) t = if t = base then some b else nbOf (base + 1) r t := by
      intro t
      unfold nbOf
      by_cases ht : t = base
      · subst ht; simp
      · by_cases hle : base ≤ t
        · have e : t - base = (t - (base + 1)) + 1 := by omega
          rw [if_pos hle, if_neg ht, if_pos (by omega), e]; simp
        · rw [if_neg hle, if_neg ht, if_neg (by omega)]
    refine ⟨fun lv t => ?_, fun t b' h => ?_⟩
    · rw [ih.get, hnb]
      by_cases hl : lv = 0
      · subst hl
        simp only [if_true]
        by_cases ht : t = base
        · subst ht
          have : nbOf (t + 1) r t = none := by unfold nbOf; rw [if_neg (by omega)]
          rw [this]
          have := new_heap h1 0 t
          simp only [if_true] at this ⊢
          simpa [St.heap] using this
        · simp only [ht, if_false]
          cases nbOf (base + 1) r t with
          | some b' => rfl
          | none =>
            have := new_heap h1 0 t
            simpa [St.heap, ht] using this
      · simp only [hl, if_false]
        have := new_heap h1 lv t
        simpa [hl] using this
    · rw [hnb] at h
      by_cases ht : t = base
      · subst ht; exact (new_get h1).1
      · rw [if_neg ht] at h
        have := ih.free t b' h
        have h3 := new_heap h1 0 t
        rw [if_neg (by simp [ht])] at h3
        rw [show S1.heap 0 = S1.loc from rfl, this] at h3
        exact h3.symm

def resSt (r : Res) : St := { tmps := [], loc := (numbered 0 r.blks).map fun x => (x.1, some x.2), ext := r.ext }
theorem numbered_get : ∀ (l : List Blk) (base t : Nat), Heap.get ((numbered base l).map fun x => (x.1, some x.2)) t = (nbOf base l t).map some
  | [], base, t => by simp [numbered, Heap.get, nbOf]
  | b :: r, base, t => by
    simp only [numbered, List.map_cons, Heap.get]
    by_cases ht : t = base
    · subst ht; simp [nbOf]
    · rw [if_neg ht, numbered_get r (base + 1) t]
      unfold nbOf
      by_cases hle : base ≤ t
      · have e : t - base = (t - (base + 1)) + 1 := by omega
        rw [if_pos hle, if_pos (by omega), e]; simp
      · rw [if_neg hle, if_neg (by omega)]
theorem res_get (r : Res) (t : Nat) : ((resSt r).heap 0).get t = (r.blks[t]?).map some := by
  show Heap.get _ _ = _
  rw [show (resSt r).heap 0 = (numbered 0 r.blks).map fun x => (x.1, some x.2) from rfl, numbered_get]
  simp [nbOf]
theorem res_blk (r : Res) (t : Nat) : (resSt r).blk 0 t = r.blks[t]? := by
  unfold St.blk
  rw [res_get]
  cases r.blks[t]? <;> rfl

theorem mapR_arr {f : Nat → Nat → Nat → Path → Option (Nat × Nat × Nat)} {b : Blk} (h : b.box = false) : b.mapR f = b := by unfold Blk.mapR; simp [h]
theorem mapR_ver {f : Nat → Nat → Nat → Path → Option (Nat × Nat × Nat)} (b : Blk) : (b.mapR f).ver = b.ver ∧ (b.mapR f).sz = b.sz ∧ (b.mapR f).box = b.box ∧ (b.mapR f).fl = b.fl := by unfold Blk.mapR; split <;> simp
theorem mapR_cell {f : Nat → Nat → Nat → Path → Option (Nat × Nat × Nat)} {b : Blk} (h : b.box = true) (i c : Nat) : cellAt (b.mapR f).elems i c = (cellAt b.elems i c).map (AV.mapR f) := by
  unfold Blk.mapR cellAt
  simp only [h, if_true, List.getElem?_map]
  cases b.elems[i]? with
  | none => rfl
  | some r => simp [mapRs_map]
theorem mapR_len {f : Nat → Nat → Nat → Path → Option (Nat × Nat × Nat)} (b : Blk) : (b.mapR f).elems.length = b.elems.length := by unfold Blk.mapR; split <;> simp

/-- A variable's block leads to no row of its own inside. -/
theorem box_own {cell : Addr → Option Value} {lv s : Nat} {b : Blk} (hc : Cont cell S g w lv s b [] b.elems) (hbox : b.box = true) {i c : Nat} {fl : Bool} {zs : List (List AV)} : cellAt b.elems i c ≠ some (.own fl zs) := by
  intro h
  obtain ⟨d1, d2, d3⟩ := hc
  cases hB : g.θ lv s [] with
  | none => rw [hB] at d3; rw [d3] at h; simp [cellAt] at h
  | some B =>
    rw [hB] at d3
    obtain ⟨arr, ty, fz, a1, a2, a3, a4, a5⟩ := d3
    obtain ⟨cv, c1, c2⟩ := a5 _ _ _ h
    have := c2.1; rw [hbox] at this; cases this
theorem box_nav {elems : List (List AV)} (h : ∀ i c fl zs, cellAt elems i c ≠ some (.own fl zs)) {p : Path} {ys : List (List AV)} (hn : navE elems p = some ys) : p = [] ∧ ys = elems := by
  cases p with
  | nil => simp [navE] at hn; exact ⟨rfl, hn.symm⟩
  | cons x r =>
    obtain ⟨i, c⟩ := x
    simp only [navE] at hn
    cases hu : cellAt elems i c with
    | none => simp [hu] at hn
    | some v =>
      cases v with
      | own fl zs => exact absurd hu (h i c fl zs)
      | _ => simp [hu] at hn
theorem mapR_own {f : Nat → Nat → Nat → Path → Option (Nat × Nat × Nat)} {b : Blk} (hbox : b.box = true) (h : ∀ i c fl zs, cellAt b.elems i c ≠ some (.own fl zs)) : ∀ i c fl zs, cellAt (b.mapR f).elems i c ≠ some (.own fl zs) := by
  intro i c fl zs he
  rw [mapR_cell hbox] at he
  obtain ⟨u, h1, h2⟩ := Option.map_eq_some_iff.1 he
  cases u <;> simp only [AV.mapR] at h2 <;> first | (cases h2; done) | (cases h2; exact h _ _ _ _ h1) | (split at h2 <;> cases h2)

/-- What a block's content says, under another name. -/
theorem Cont.ren {f : Nat → Nat → Nat → Path → Option (Nat × Nat × Nat)} {S1 S2 : St} {g1 g2 : G} {cell cell' : Addr → Option Value} {s s' : Nat} {b : Blk} (hr : RenOk f S1 g1 S2 g2) (hcell : ∀ v cv, VRel S1 g1 cell v cv → (∃ i c, b.box = true ∧ cellAt b.elems i c = some v) ∨ v.scal = true → VRel S1 g1 cell' v cv)
    (hall : ∀ p ys, navE b.elems p = some ys → Cont cell S1 g1 w 0 s b p ys) (hθ : ∀ q, g2.θ 0 s' q = g1.θ 0 s q) (hκ : ∀ q B, g1.θ 0 s q = some B → g2.κ B = g1.κ B) {b' : Blk} (hb' : b' = { b.mapR f with ver := b'.ver }) {p : Path} {ys : List (List AV)} (hn : navE b'.elems p = some ys) : Cont cell' S2 g2 w 0 s' b' p ys := by
  obtain ⟨e1, e2, e3, e4⟩ := mapR_ver (f := f) b
  have q1 : b'.sz = b.sz := by rw [hb']; exact e2
  have q2 : b'.box = b.box := by rw [hb']; exact e3
  have q3 : b'.fl = b.fl := by rw [hb']; exact e4
  have q4 : b'.elems = (b.mapR f).elems := by rw [hb']
  by_cases hbox : b.box = true
  · have hown := fun i c fl zs => box_own (hall [] b.elems rfl) hbox (i := i) (c := c) (fl := fl) (zs := zs)
    rw [q4] at hn
    obtain ⟨rfl, rfl⟩ := box_nav (mapR_own (f := f) hbox hown) hn
    obtain ⟨d1, d2, d3⟩ := hall [] b.elems rfl
    have hcs : csz b'.sz [] (b.mapR f).elems = csz b.sz [] b.elems := q1
    refine ⟨fun r hr' => ?_, fun hne => ?_, ?_⟩
    · rw [hcs]
      unfold Blk.mapR at hr'
      simp only [hbox, if_true, List.mem_map] at hr'
      obtain ⟨r0, h1, rfl⟩ := hr'
      rw [mapRs_length]; exact d1 r0 h1
    · rw [hcs]
      exact d2 fun h => hne (by rw [← List.length_eq_zero_iff, mapR_len, h]; rfl)
    · rw [hθ]
      cases hB : g1.θ 0 s [] with
      | none => rw [hB] at d3; rw [← List.length_eq_zero_iff, mapR_len, d3]; rfl
      | some B =>
        rw [hB] at d3
        obtain ⟨arr, ty, fz, a1, a2, a3, a4, a5⟩ := d3
        refine ⟨arr, ty, fz, a1, by rw [hcs]; exact a2, a3.trans (hκ [] B hB).symm, by rw [hcs, mapR_len]; exact a4, fun i c v hv => ?_⟩
        rw [mapR_cell hbox] at hv
        obtain ⟨u, h1, h2⟩ := Option.map_eq_some_iff.1 hv
        obtain ⟨cv, c1, c2⟩ := a5 i c u h1
        refine ⟨cv, by rw [hcs]; exact c1, ?_⟩
        have hu : VRel S1 g1 cell u cv := by
          cases u with
          | own fl zs => exact absurd h1 (hown _ _ _ _)
          | _ => have := c2.1; rwa [mapR_up0] at this
        have hu2 := (hcell u cv hu (.inl ⟨i, c, hbox, h1⟩)).ren hr
        rw [h2] at hu2
        have hvown : ∀ fl zs, v ≠ .own fl zs := fun fl zs he => mapR_own (f := f) hbox hown i c fl zs (by rw [mapR_cell hbox, h1]; simp [h2, he])
        rw [← mapR_up0 v] at hu2
        cases v <;> first | exact absurd rfl (hvown _ _) | exact ⟨hu2, fun h => by rw [q2, hbox] at h; cases h⟩
  · have hbox' : b.box = false := by simpa using hbox
    rw [mapR_arr hbox'] at q4
    rw [q4] at hn
    obtain ⟨d1, d2, d3⟩ := hall p ys hn
    refine ⟨by rw [q1]; exact d1, by rw [q1]; exact d2, ?_⟩
    rw [hθ, q1]
    cases hB : g1.θ 0 s p with
    | none => rw [hB] at d3; exact d3
    | some B =>
      rw [hB] at d3
      obtain ⟨arr, ty, fz, a1, a2, a3, a4, a5⟩ := d3
      refine ⟨arr, ty, fz, a1, a2, a3.trans (hκ p B hB).symm, a4, fun i c v hv => ?_⟩
      obtain ⟨cv, c1, c2⟩ := a5 i c v hv
      refine ⟨cv, c1, ?_⟩
      cases v with
      | own fl zs =>
        obtain ⟨k1, k2, k3, k4⟩ := c2
        exact ⟨by rw [q2]; exact k1, by rw [q3]; exact k2, k3, by rw [hθ]; exact k4⟩
      | _ =>
        have hs := c2.2 hbox'
        have h1 := c2.1
        rw [scal_mapR hs] at h1
        have h2 := (hcell _ cv h1 (.inr hs)).ren hr
        rw [scal_mapR hs] at h2
        refine ⟨by rw [scal_mapR hs]; exact h2, fun _ => hs⟩
end
end Go.Ae
namespace Go.Ae
open Go.RowKit
set_option linter.unusedVariables false
set_option linter.unusedSimpArgs false
section
variable {P : Program} {w w0 : World} {M : Nat → Nat → Path → Option Nat} {R : Nat → Prop} {S : St} {g : G} {a : Act} {o : Oper}

/-- The evaluator's answer is the machine's. -/
def CallOk (P : Program) (f : Nat) (args : List AV) (E : List Heap) (r : Res) : Prop := ∀ (w : World) (R : Nat → Prop) (g : G) (cargs : Array Value), RdW w g.θ R → (∀ s p, g.θ 0 s p = none) → WRel w g.θ R ⟨args, [], E⟩ g w → VRels ⟨args, [], E⟩ g (stab w R) args cargs →
  Calls P f cargs w (fun e w' => ∃ cv g', e = .returned cv ∧ WRel w g.θ R (resSt r) g' w' ∧ Ext ⟨args, [], E⟩ g (resSt r) g' ∧ VRel (resSt r) g' (stab w R) r.val cv)
def OracleOk (P : Program) (O : Oracle) : Prop := ∀ f args E r, O f args E = some r → CallOk P f args E r

theorem stab_eq (hR : RdW w0 M R) (hW : WRel w0 M R S g w) : stab w R = stab w0 R := by
  funext ad
  unfold stab
  by_cases h : R ad.block
  · obtain ⟨h1, h2⟩ := hR.r _ h
    rw [if_pos h, if_pos h]
    unfold World.cell?
    rw [hW.keep _ h1 h2]
  · rw [if_neg h, if_neg h]

theorem stables_get : ∀ {cs : List AV} {i : Nat} {v : AV}, AV.stables cs = true → cs[i]? = some v → v.stable = true
  | [], i, v, h, hv => by simp at hv
  | u :: r, i, v, h, hv => by
    simp only [AV.stables, Bool.and_eq_true] at h
    cases i with
    | zero => simp at hv; subst hv; exact h.1
    | succ i => exact stables_get h.2 (by simpa using hv)
/-- A value with no place of one's own in it, as a call is handed it. -/
theorem reify_stable {cell : Addr → Option Value} : ∀ (n : Nat) (v v' : AV) (cv : Value), reify S n v = some v' → v.stable = true → VRel S g cell v cv → Rd cell v' cv
  | 0, v, v', cv, h, hs, hv => by simp [reify] at h
  | n + 1, v, v', cv, h, hs, hv => by
    cases v with
    | int k m => simp [reify] at h; subst h; rw [hv.int_inv]; exact .int _ _
    | bool b => simp [reify] at h; subst h; rw [hv.bool_inv]; exact .bool _
    | str s => simp [reify] at h; subst h; rw [hv.str_inv]; exact .str _
    | nil fl sz => simp [reify] at h; subst h; rw [hv.nil_inv]; exact .rd fl [] none 0 0 (fun _ _ => undef) (Nat.le_refl _) (fun r hr => by simp at hr) (fun _ r hr => by simp at hr) (fun i c v h => by simp [cellAt] at h) (fun i c v h => by simp [cellAt] at h)
    | rd fl xs => simp [reify] at h; subst h; exact hv.rd_inv
    | own fl xs => simp [reify] at h
    | rptr cs => simp [reify] at h; subst h; exact hv.rptr_inv
    | tup xs => simp [reify] at h
    | skp => simp [reify] at h
    | undef => simp [reify] at h; subst h; exact .undef _
    | agg cs =>
      simp only [reify] at h
      simp only [AV.stable] at hs
      split at h
      · rename_i cs' hm
        cases h
        obtain ⟨arr, rfl, hl, hr⟩ := hv.agg_inv
        obtain ⟨m1, m2⟩ := mapO_get hm
        refine .agg cs' arr (by rw [m1, hl]) fun i v hvi => ?_
        obtain ⟨u, hu, hf⟩ := m2 i v hvi
        exact reify_stable n u v _ hf (stables_get hs hu) (hr i u hu)
      · cases h
    | fn f cs =>
      simp only [reify] at h
      simp only [AV.stable] at hs
      split at h
      · rename_i cs' hm
        cases h
        obtain ⟨arr, rfl, hl, hr⟩ := hv.fn_inv
        obtain ⟨m1, m2⟩ := mapO_get hm
        refine .fn f cs' arr (by rw [m1, hl]) fun i v hvi => ?_
        obtain ⟨u, hu, hf⟩ := m2 i v hvi
        exact reify_stable n u v _ hf (stables_get hs hu) (hr i u hu)
      · cases h
    | sl lv s ver p off len => simp [AV.stable] at hs
    | ptr lv s ver p i c => simp [AV.stable] at hs

theorem blk_empty {l : List AV} {lv s : Nat} : (⟨l, [], []⟩ : St).blk lv s = none := by
  unfold St.blk
  cases lv <;> simp [St.heap, Heap.get]

/-- A call by value. -/
theorem callVal_ok {O : Oracle} {base f : Nat} {args : List AV} {fl : Bool} {v : AV} {n : List (Nat × Blk)} {S' : St} {cargs : Array Value} (hO : OracleOk P O) (hR : RdW w0 M R) (hW : WRel w0 M R S g w) (hargs : VRels S g (stab w0 R) args cargs)
    (hc : callVal O S base f args fl = some (v, n)) (hn : addNews S n = some S') : Calls P f cargs w (fun e w' => ∃ cv g', e = .returned cv ∧ Outc w0 M R S g S' v cv w' g') := by
  unfold callVal at hc
  split at hc
  · rename_i as has
    split at hc
    · rename_i r hr
      split at hc
      · cases hc
      · rename_i hfl
        split at hc
        · cases hc
        · rename_i hbear
          cases hc
          obtain ⟨m1, m2⟩ := mapO_get has
          have hext : r.ext = [] := by
            simp only [Bool.or_eq_true, Bool.and_eq_true, Bool.not_eq_true', not_or] at hfl
            simpa using hfl.2
          -- what the callee may read
          obtain ⟨R', hR', hcase⟩ : ∃ R' : Nat → Prop, (∀ B, R' B → B < w.heap.size) ∧ ((R' = R ∧ AV.stables args = true) ∨ (R' = allB w ∧ r.val.bears = false ∧ (r.blks.any Blk.bears) = false)) := by
            by_cases hs : AV.stables args = true
            · exact ⟨R, fun B hB => Nat.lt_of_lt_of_le (hR.r B hB).1 hW.size, .inl ⟨rfl, hs⟩⟩
            · refine ⟨allB w, fun B hB => hB, .inr ⟨rfl, ?_⟩⟩
              have hs' : AV.stables args = false := by simpa using hs
              rw [hs'] at hbear
              simp only [Bool.not_false, Bool.and_true, Bool.not_eq_true, Bool.or_eq_false_iff] at hbear
              exact hbear
          let g0 : G := ⟨fun _ _ _ => none, g.κ⟩
          have hRd : ∀ (i : Nat) (u : AV), as[i]? = some u → Rd (stab w R') u (cargs.getD i undef) := by
            intro i u hu
            obtain ⟨v0, hv0, hf⟩ := m2 i u hu
            rcases hcase with ⟨rfl, hs⟩ | ⟨rfl, _⟩
            · rw [stab_eq hR hW]; exact reify_stable 8 v0 u _ hf (stables_get hs hv0) (hargs.2 i v0 hv0)
            · exact reify_rd hR hW 8 v0 u _ hf (hargs.2 i v0 hv0)
          have hcall := hO f as [] r hr w R' g0 cargs ⟨fun B hB => ⟨hR' B hB, fun lv s p h => by cases h⟩⟩ (fun s p => rfl)
            { os := rfl, tape := rfl, output := rfl, size := Nat.le_refl _, keep := fun B _ _ => rfl, rng := fun lv s p B h => by (cases h), fresh := fun s p B h => by (cases h), ext := fun lv s p B h => by (cases h),
              inj := fun lv s p lv' s' p' B h _ => by (cases h), cont := fun lv s b p ys hb _ => by rw [blk_empty] at hb; cases hb }
            ⟨by rw [m1]; exact hargs.1, fun i u hu => (hRd i u hu).vrel⟩
          refine hcall.mono ?_
          rintro e w' ⟨cv, gc, rfl, hC, hE, hV⟩
          -- behind the call
          have hkeep : ∀ B, B < w.heap.size → w'.heap[B]? = w.heap[B]? := fun B hB => hC.keep B hB fun lv s p h => by cases h
          have hW' : WRel w0 M R S g w' := hW.world hC.os hC.tape hC.output hC.size hkeep
          let blks := r.blks.map (Blk.mapR (injR base))
          have hnews : News S S' (nbOf base blks) := addNews_numbered hn
          let t : Nat → Path → Option Nat := fun s p => if base ≤ s then gc.θ 0 (s - base) p else none
          let κ : Nat → Nat := fun B => if B < w.heap.size then g.κ B else gc.κ B
          have hκ : ∀ lv s p B, g.θ lv s p = some B → κ B = g.κ B := fun lv s p B hB => by simp only [κ]; rw [if_pos (hW.rng lv s p B hB)]
          have hκ2 : ∀ s p B, gc.θ 0 s p = some B → κ B = gc.κ B := fun s p B hB => by
            have := hC.fresh s p B hB
            simp only [κ]; rw [if_neg (by omega)]
          let gN := g.adds (nbOf base blks) t κ
          have hnb : ∀ k b, r.blks[k]? = some b → nbOf base blks (base + k) = some (b.mapR (injR base)) := fun k b hb => by
            unfold nbOf
            rw [if_pos (by omega), show base + k - base = k by omega, List.getElem?_map, hb]; rfl
          have hnb' : ∀ s b, nbOf base blks s = some b → ∃ k b0, s = base + k ∧ r.blks[k]? = some b0 ∧ b = b0.mapR (injR base) := fun s b hs => by
            unfold nbOf at hs
            split at hs
            · rename_i hle
              rw [List.getElem?_map] at hs
              obtain ⟨b0, h1, h2⟩ := Option.map_eq_some_iff.1 hs
              exact ⟨s - base, b0, by omega, h1, h2.symm⟩
            · cases hs
          have hren : RenOk (injR base) (resSt r) gc S' gN := by
            intro lv s v p lv' s' v' hf hk
            cases lv with
            | succ q =>
              obtain ⟨ob, h1, _⟩ := hk
              simp [St.heap, resSt, hext, Heap.get] at h1
            | zero =>
              simp only [injR, Option.some.injEq, Prod.mk.injEq] at hf
              obtain ⟨rfl, rfl, rfl⟩ := hf
              obtain ⟨ob, h1, h2⟩ := hk
              rw [res_get] at h1
              obtain ⟨b, hb, rfl⟩ := Option.map_eq_some_iff.1 h1
              have hbN := hnb s b hb
              obtain ⟨e1, e2, e3, e4⟩ := mapR_ver (f := injR base) b
              refine ⟨⟨some (b.mapR (injR base)), ?_, fun b' h => by cases h; rw [e1]; exact h2 b rfl⟩, fun b' ys' hat => ?_⟩
              · rw [hnews.get]; simp [hbN]
              · obtain ⟨q1, q2, q3⟩ := at_blk hat
                rw [hnews.blk] at q1
                simp only [if_true, hbN, Option.some.injEq] at q1
                subst q1
                have hbr : (resSt r).blk 0 s = some b := by rw [res_blk]; exact hb
                have hθ : gN.θ 0 (base + s) p = gc.θ 0 s p := by
                  rw [show gN.θ 0 (base + s) p = _ from adds_θ g _ t κ 0 (base + s) p, if_pos ⟨rfl, by rw [hbN]; rfl⟩]
                  simp only [t]; rw [if_pos (by omega), show base + s - base = s by omega]
                by_cases hbox : b.box = true
                · have hown := fun i c fl zs => box_own (hC.cont 0 s b [] b.elems hbr rfl) hbox (i := i) (c := c) (fl := fl) (zs := zs)
                  obtain ⟨rfl, rfl⟩ := box_nav (mapR_own (f := injR base) hbox hown) q3
                  exact ⟨b, b.elems, at_mk hbr (by rw [q2, e1]) rfl, by rw [mapR_len]; exact Nat.le_refl _, e2, e2, hθ, fun B hB => hκ2 s [] B hB⟩
                · have hbox' : b.box = false := by simpa using hbox
                  rw [mapR_arr hbox'] at q3 q2 ⊢
                  exact ⟨b, ys', at_mk hbr q2 q3, Nat.le_refl _, rfl, rfl, hθ, fun B hB => hκ2 s p B hB⟩
          have hcellv : ∀ (u : AV) (cv' : Value), VRel (resSt r) gc (stab w R') u cv' → (R' = R ∨ u.bears = false) → VRel (resSt r) gc (stab w0 R) u cv' := fun u cv' h hb => by
            rcases hcase with ⟨hRR, _⟩ | ⟨_, _⟩
            · rw [hRR, stab_eq hR hW] at h; exact h
            · rcases hb with hb | hb
              · rw [hb, stab_eq hR hW] at h; exact h
              · exact h.cell hb
          have hWN : WRel w0 M R S' gN w' := by
            refine hW'.extends hnews t κ hκ (fun s p B hs hB => ?_) (fun s p s' q B h1 h2 => ?_) fun s b p ys hs hp => ?_
            · simp only [t] at hB
              split at hB
              · have hf := hC.fresh _ _ _ hB
                refine ⟨Nat.le_trans hW.size hf, hC.rng _ _ _ _ hB, fun lv s p h => ?_⟩
                have := hW.rng _ _ _ _ h; omega
              · cases hB
            · simp only [t] at h1 h2
              split at h1 <;> split at h2 <;> first | cases h1 | cases h2 | skip
              obtain ⟨_, q1, q2⟩ := hC.inj _ _ _ _ _ _ B h1 h2
              exact ⟨by omega, q2⟩
            · obtain ⟨k, b0, rfl, hb0, rfl⟩ := hnb' s b hs
              have hbr : (resSt r).blk 0 k = some b0 := by rw [res_blk]; exact hb0
              refine Cont.ren (b := b0) (s := k) (cell := stab w R') hren (fun u cv' hu hcond => hcellv u cv' hu ?_) (fun p ys hp => hC.cont 0 k b0 p ys hbr hp) (fun q => ?_) (fun q B hB => hκ2 k q B hB) (by obtain ⟨e1, _⟩ := mapR_ver (f := injR base) b0; cases hq : b0.mapR (injR base); rfl) hp
              · rcases hcase with ⟨hRR, _⟩ | ⟨_, _, hbb⟩
                · exact .inl hRR
                · right
                  rcases hcond with ⟨i, c, hbox, hcl⟩ | hsc
                  · have hbl := List.any_eq_false.1 hbb b0 (List.mem_of_getElem? hb0)
                    simp only [Blk.bears, hbox, Bool.true_and, Bool.not_eq_true] at hbl
                    unfold cellAt at hcl
                    split at hcl
                    · rename_i row hrow
                      have := List.any_eq_false.1 hbl row (List.mem_of_getElem? hrow)
                      exact bearss_get (by simpa using this) hcl
                    · cases hcl
                  · cases u <;> first | rfl | simp [AV.scal] at hsc
              · rw [show gN.θ 0 (base + k) q = _ from adds_θ g _ t κ 0 (base + k) q, if_pos ⟨rfl, by rw [hs]; rfl⟩]
                simp only [t]; rw [if_pos (by omega), show base + k - base = k by omega]
          refine ⟨cv, gN, rfl, hWN, Ext.news hnews t hκ, (hcellv _ _ hV ?_).ren hren⟩
          rcases hcase with ⟨hRR, _⟩ | ⟨_, hb, _⟩
          · exact .inl hRR
          · exact .inr hb
    · cases hc
  · cases hc
end
end Go.Ae
namespace Go.Ae
open Go.RowKit
set_option linter.unusedVariables false
set_option linter.unusedSimpArgs false
section
variable {P : Program} {w w0 : World} {M : Nat → Nat → Path → Option Nat} {R : Nat → Prop} {S : St} {g : G} {a : Act} {o : Oper}

abbrev RefMap := Nat → Nat → Nat → Path → Option (Nat × Nat × Nat)
def RefMap.comp (f h : RefMap) : RefMap := fun lv s v p => match f lv s v p with | some (lv', s', v') => h lv' s' v' p | none => none
mutual
theorem mapR_comp (f h : RefMap) : ∀ v : AV, (v.mapR f).mapR h = v.mapR (f.comp h)
  | .int .. => rfl
  | .bool _ => rfl
  | .str _ => rfl
  | .nil .. => rfl
  | .rd .. => rfl
  | .own .. => rfl
  | .sl lv s v p off len => by
    simp only [AV.mapR, RefMap.comp]
    cases f lv s v p with
    | none => rfl
    | some t => rfl
  | .ptr lv s v p i c => by
    simp only [AV.mapR, RefMap.comp]
    cases f lv s v p with
    | none => rfl
    | some t => rfl
  | .rptr _ => rfl
  | .agg cs => by simp [AV.mapR, mapRs_comp f h cs]
  | .fn f' cs => by simp [AV.mapR, mapRs_comp f h cs]
  | .tup cs => by simp [AV.mapR, mapRs_comp f h cs]
  | .skp => rfl
  | .undef => rfl
theorem mapRs_comp (f h : RefMap) : ∀ vs : List AV, AV.mapRs h (AV.mapRs f vs) = AV.mapRs (f.comp h) vs
  | [] => rfl
  | v :: r => by simp [AV.mapRs, mapR_comp f h v, mapRs_comp f h r]
end

def gUp (g : G) : G := ⟨fun lv s p => match lv with | 0 => none | n + 1 => g.θ n s p, g.κ⟩
def gDn (g : G) : G := ⟨fun lv s p => g.θ (lv + 1) s p, g.κ⟩
def downR (lv s v : Nat) (_ : Path) : Option (Nat × Nat × Nat) := match lv with | 0 => none | n + 1 => some (n, s, v)

theorem up_shift (k : Nat) : RefMap.comp (upR k) shiftR = upR (k + 1) := by funext lv s v p; simp [RefMap.comp, upR, shiftR, Nat.add_assoc]
theorem up_down (k : Nat) : RefMap.comp (upR (k + 1)) downR = upR k := by funext lv s v p; simp only [RefMap.comp, upR, downR]; rfl

theorem heap_up (l : List AV) (S : St) (lv : Nat) : (⟨l, [], S.loc :: S.ext⟩ : St).heap (lv + 1) = S.heap lv := by cases lv <;> simp [St.heap]
theorem blk_up (l : List AV) (S : St) (lv s : Nat) : (⟨l, [], S.loc :: S.ext⟩ : St).blk (lv + 1) s = S.blk lv s := by unfold St.blk; rw [heap_up]
theorem at_up (l : List AV) (S : St) (lv s v : Nat) (p : Path) : (⟨l, [], S.loc :: S.ext⟩ : St).at (lv + 1) s v p = S.at lv s v p := by unfold St.at; rw [blk_up]

theorem ren_up (l : List AV) : RenOk shiftR S g ⟨l, [], S.loc :: S.ext⟩ (gUp g) := by
  intro lv s v p lv' s' v' hf hk
  simp only [shiftR, Option.some.injEq, Prod.mk.injEq] at hf
  obtain ⟨rfl, rfl, rfl⟩ := hf
  obtain ⟨ob, h1, h2⟩ := hk
  refine ⟨⟨ob, by rw [heap_up]; exact h1, h2⟩, fun b' ys' hat => ?_⟩
  rw [at_up] at hat
  exact ⟨b', ys', hat, Nat.le_refl _, rfl, rfl, rfl, fun B _ => rfl⟩

/-- A block's content, told from another level. -/
theorem Cont.level {f : RefMap} {cell : Addr → Option Value} {S1 S2 : St} {g1 g2 : G} {lv lv' s : Nat} {b : Blk} {p : Path} {ys : List (List AV)} (h : Cont cell S1 g1 w lv s b p ys) (hr : RenOk f S1 g1 S2 g2) (hf : RefMap.comp (upR lv) f = upR lv')
    (hθ : ∀ q, g2.θ lv' s q = g1.θ lv s q) (hκ : ∀ q B, g1.θ lv s q = some B → g2.κ B = g1.κ B) : Cont cell S2 g2 w lv' s b p ys := by
  obtain ⟨d1, d2, d3⟩ := h
  refine ⟨d1, d2, ?_⟩
  rw [hθ]
  cases hB : g1.θ lv s p with
  | none => rw [hB] at d3; exact d3
  | some B =>
    rw [hB] at d3
    obtain ⟨arr, ty, fz, a1, a2, a3, a4, a5⟩ := d3
    refine ⟨arr, ty, fz, a1, a2, a3.trans (hκ p B hB).symm, a4, fun i c v hv => ?_⟩
    obtain ⟨cv, c1, c2⟩ := a5 i c v hv
    refine ⟨cv, c1, ?_⟩
    cases v with
    | own fl zs =>
      obtain ⟨k1, k2, k3, k4⟩ := c2
      exact ⟨k1, k2, k3, by rw [hθ]; exact k4⟩
    | _ =>
      have h1 := (VRel.ren hr c2.1)
      rw [mapR_comp, hf] at h1
      exact ⟨h1, c2.2⟩

theorem args_up {args : List AV} {cargs : Array Value} {l : List AV} {cell : Addr → Option Value} (h : VRels S g cell args cargs) : VRels ⟨l, [], S.loc :: S.ext⟩ (gUp g) cell (args.map (AV.mapR shiftR)) cargs := by
  refine ⟨by rw [List.length_map]; exact h.1, fun i v hv => ?_⟩
  rw [List.getElem?_map] at hv
  obtain ⟨u, h1, rfl⟩ := Option.map_eq_some_iff.1 hv
  exact (h.2 i u h1).ren (ren_up l)

/-- A call by reference; its answer taken in at 'base'. -/
theorem callRef_ok {O : Oracle} {base f : Nat} {args : List AV} {r : Res} {l : Heap} {e : List Heap} {S' : St} {cargs : Array Value} (hO : OracleOk P O) (hR : RdW w0 M R) (hW : WRel w0 M R S g w) (hargs : VRels S g (stab w0 R) args cargs)
    (hr : O f (args.map (AV.mapR shiftR)) (S.loc :: S.ext) = some r) (hext : r.ext = l :: e) (hn : addNews { S with loc := l, ext := e } (numbered base (r.blks.map (Blk.mapR (injR base)))) = some S') :
    Calls P f cargs w (fun en w' => ∃ cv g', en = .returned cv ∧ Outc w0 M R S g S' (r.val.mapR (injR base)) cv w' g') := by
  have hown : ∀ B, R B → ∀ lv s p, g.θ lv s p ≠ some B := fun B hB lv s p h => by
    obtain ⟨h1, h2⟩ := hR.r B hB
    cases lv with
    | zero => have := hW.fresh s p B h; omega
    | succ n => rcases hW.ext n s p B h with h3 | h3
                · exact h2 _ _ _ h3
                · omega
  have hup : ∀ B, (∀ lv s p, g.θ lv s p ≠ some B) → ∀ lv s p, (gUp g).θ lv s p ≠ some B := fun B hB lv s p h => by
    cases lv with
    | zero => cases h
    | succ n => exact hB n s p h
  have hse := stab_eq hR hW
  have hcall := hO f _ _ r hr w R (gUp g) cargs ⟨fun B hB => ⟨Nat.lt_of_lt_of_le (hR.r B hB).1 hW.size, hup B (hown B hB)⟩⟩ (fun s p => rfl)
    { os := rfl, tape := rfl, output := rfl, size := Nat.le_refl _, keep := fun B _ _ => rfl,
      rng := fun lv s p B h => by cases lv with
        | zero => cases h
        | succ n => exact hW.rng n s p B h,
      fresh := fun s p B h => by (cases h), ext := fun lv s p B h => .inl h,
      inj := fun lv s p lv' s' p' B h h' => by
        cases lv with
        | zero => cases h
        | succ n => cases lv' with
          | zero => cases h'
          | succ m => obtain ⟨e1, e2, e3⟩ := hW.inj n s p m s' p' B h h'; exact ⟨by omega, e2, e3⟩,
      cont := fun lv s b p ys hb hp => by
        cases lv with
        | zero => simp [St.blk, St.heap, Heap.get] at hb
        | succ n =>
          rw [blk_up] at hb
          have := (hW.cont n s b p ys hb hp).level (ren_up (args.map (AV.mapR shiftR))) (up_shift n) (fun q => rfl) (fun q B _ => rfl)
          rw [hse]; exact this }
    (by rw [hse]; exact args_up hargs)
  refine hcall.mono ?_
  rintro en w' ⟨cv, gc, rfl, hC, hE, hV⟩
  rw [hse] at hV
  let Sm : St := { S with loc := l, ext := e }
  have hheap : ∀ lv, (resSt r).heap (lv + 1) = Sm.heap lv := fun lv => by cases lv <;> simp [St.heap, resSt, hext, Sm]
  have hblk : ∀ lv s, (resSt r).blk (lv + 1) s = Sm.blk lv s := fun lv s => by unfold St.blk; rw [hheap]
  have hat' : ∀ lv s v p, (resSt r).at (lv + 1) s v p = Sm.at lv s v p := fun lv s v p => by unfold St.at; rw [hblk]
  have hdown : RenOk downR (resSt r) gc Sm (gDn gc) := by
    intro lv s v p lv' s' v' hf hk
    cases lv with
    | zero => simp [downR] at hf
    | succ n =>
      simp only [downR, Option.some.injEq, Prod.mk.injEq] at hf
      obtain ⟨rfl, rfl, rfl⟩ := hf
      obtain ⟨ob, h1, h2⟩ := hk
      rw [hheap] at h1
      exact ⟨⟨ob, h1, h2⟩, fun b' ys' ha => ⟨b', ys', by rw [hat']; exact ha, Nat.le_refl _, rfl, rfl, rfl, fun B _ => rfl⟩⟩
  have hMid : WRel w0 M R Sm (gDn gc) w' :=
    { os := hC.os.trans hW.os, tape := hC.tape.trans hW.tape, output := hC.output.trans hW.output, size := Nat.le_trans hW.size hC.size,
      keep := fun B hB hM => by
        have hno : ∀ lv s p, g.θ lv s p ≠ some B := fun lv s p h => by
          cases lv with
          | zero => have := hW.fresh s p B h; omega
          | succ n => rcases hW.ext n s p B h with h3 | h3
                      · exact hM _ _ _ h3
                      · omega
        exact (hC.keep B (Nat.lt_of_lt_of_le hB hW.size) (hup B hno)).trans (hW.keep B hB hM),
      rng := fun lv s p B h => hC.rng _ _ _ _ h,
      fresh := fun s p B h => by
        rcases hC.ext 0 s p B h with h1 | h1
        · exact hW.fresh s p B h1
        · exact Nat.le_trans hW.size h1,
      ext := fun lv s p B h => by
        rcases hC.ext (lv + 1) s p B h with h1 | h1
        · exact hW.ext lv s p B h1
        · exact .inr (Nat.le_trans hW.size h1),
      inj := fun lv s p lv' s' p' B h h' => by
        obtain ⟨e1, e2, e3⟩ := hC.inj _ _ _ _ _ _ B h h'
        exact ⟨by omega, e2, e3⟩,
      cont := fun lv s b p ys hb hp => by
        have := (hC.cont (lv + 1) s b p ys (by rw [hblk]; exact hb) hp).level hdown (up_down lv) (fun q => rfl) (fun q B _ => rfl)
        rw [hse] at this; exact this }
  have hEm : Ext S g Sm (gDn gc) := by
    intro lv s ob hob
    obtain ⟨ob', h1, h2⟩ := hE (lv + 1) s ob (by rw [heap_up]; exact hob)
    refine ⟨ob', by rw [← hheap]; exact h1, fun b' hb' => ?_⟩
    obtain ⟨b, e1, e2, e3⟩ := h2 b' hb'
    exact ⟨b, e1, e2, e3⟩
  -- what it made
  let blks := r.blks.map (Blk.mapR (injR base))
  have hnews : News Sm S' (nbOf base blks) := addNews_numbered hn
  let t : Nat → Path → Option Nat := fun s p => if base ≤ s then gc.θ 0 (s - base) p else none
  let gN := (gDn gc).adds (nbOf base blks) t gc.κ
  have hnb : ∀ k b, r.blks[k]? = some b → nbOf base blks (base + k) = some (b.mapR (injR base)) := fun k b hb => by
    unfold nbOf
    rw [if_pos (by omega), show base + k - base = k by omega, List.getElem?_map, hb]; rfl
  have hnb' : ∀ s b, nbOf base blks s = some b → ∃ k b0, s = base + k ∧ r.blks[k]? = some b0 ∧ b = b0.mapR (injR base) := fun s b hs => by
    unfold nbOf at hs
    split at hs
    · rename_i hle
      rw [List.getElem?_map] at hs
      obtain ⟨b0, h1, h2⟩ := Option.map_eq_some_iff.1 hs
      exact ⟨s - base, b0, by omega, h1, h2.symm⟩
    · cases hs
  have hES : ExtS Sm (gDn gc) S' gN := ExtS.news hnews t fun _ _ _ _ _ => rfl
  have hEN : Ext Sm (gDn gc) S' gN := hES.ext
  have hren : RenOk (injR base) (resSt r) gc S' gN := by
    intro lv s v p lv' s' v' hf hk
    cases lv with
    | succ q =>
      simp only [injR, Option.some.injEq, Prod.mk.injEq] at hf
      obtain ⟨rfl, rfl, rfl⟩ := hf
      obtain ⟨ob, h1, h2⟩ := hk
      rw [hheap] at h1
      have hkm : KeyOk Sm q s v := ⟨ob, h1, h2⟩
      refine ⟨hkm.mono hEN, fun b' ys' ha => ?_⟩
      obtain ⟨q1, q2, q3⟩ := at_blk ha
      obtain ⟨ob', k1, k2⟩ := hES q s ob h1
      rw [blk_get q1] at k1; cases k1
      obtain ⟨b, hb, hle, hsame⟩ := k2 b' rfl
      subst hb
      have hvv : b.ver = b'.ver := by have := h2 b rfl; omega
      obtain ⟨e1, e2⟩ := hsame hvv
      obtain ⟨ys, c1, c2, c3, c4, c5⟩ := e2 p ys' q3
      exact ⟨b, ys, by rw [hat']; exact at_mk (get_blk h1) (by omega) c1, c2, e1, c3, c4, c5⟩
    | zero =>
      simp only [injR, Option.some.injEq, Prod.mk.injEq] at hf
      obtain ⟨rfl, rfl, rfl⟩ := hf
      obtain ⟨ob, h1, h2⟩ := hk
      rw [res_get] at h1
      obtain ⟨b, hb, rfl⟩ := Option.map_eq_some_iff.1 h1
      have hbN := hnb s b hb
      obtain ⟨e1, e2, e3, e4⟩ := mapR_ver (f := injR base) b
      refine ⟨⟨some (b.mapR (injR base)), ?_, fun b' h => by cases h; rw [e1]; exact h2 b rfl⟩, fun b' ys' hat => ?_⟩
      · rw [hnews.get]; simp [hbN]
      · obtain ⟨q1, q2, q3⟩ := at_blk hat
        rw [hnews.blk] at q1
        simp only [if_true, hbN, Option.some.injEq] at q1
        subst q1
        have hbr : (resSt r).blk 0 s = some b := by rw [res_blk]; exact hb
        have hθ : gN.θ 0 (base + s) p = gc.θ 0 s p := by
          rw [show gN.θ 0 (base + s) p = _ from adds_θ (gDn gc) _ t gc.κ 0 (base + s) p, if_pos ⟨rfl, by rw [hbN]; rfl⟩]
          simp only [t]; rw [if_pos (by omega), show base + s - base = s by omega]
        by_cases hbox : b.box = true
        · have hown := fun i c fl zs => box_own (hC.cont 0 s b [] b.elems hbr rfl) hbox (i := i) (c := c) (fl := fl) (zs := zs)
          obtain ⟨rfl, rfl⟩ := box_nav (mapR_own (f := injR base) hbox hown) q3
          exact ⟨b, b.elems, at_mk hbr (by rw [q2, e1]) rfl, by rw [mapR_len]; exact Nat.le_refl _, e2, e2, hθ, fun B hB => rfl⟩
        · have hbox' : b.box = false := by simpa using hbox
          rw [mapR_arr hbox'] at q3 q2 ⊢
          exact ⟨b, ys', at_mk hbr q2 q3, Nat.le_refl _, rfl, rfl, hθ, fun B hB => rfl⟩
  have hWN : WRel w0 M R S' gN w' := by
    refine hMid.extends hnews t gc.κ (fun _ _ _ _ _ => rfl) (fun s p B hs hB => ?_) (fun s p s' q B h1 h2 => ?_) fun s b p ys hs hp => ?_
    · simp only [t] at hB
      split at hB
      · have hf := hC.fresh _ _ _ hB
        refine ⟨Nat.le_trans hW.size hf, hC.rng _ _ _ _ hB, fun lv s p h => ?_⟩
        obtain ⟨h1, _, _⟩ := hC.inj _ _ _ _ _ _ B h hB
        omega
      · cases hB
    · simp only [t] at h1 h2
      split at h1 <;> split at h2 <;> first | cases h1 | cases h2 | skip
      obtain ⟨_, q1, q2⟩ := hC.inj _ _ _ _ _ _ B h1 h2
      exact ⟨by omega, q2⟩
    · obtain ⟨k, b0, rfl, hb0, rfl⟩ := hnb' s b hs
      have hbr : (resSt r).blk 0 k = some b0 := by rw [res_blk]; exact hb0
      refine Cont.ren (b := b0) (s := k) (cell := stab w R) hren (fun u cv' hu _ => by rw [hse] at hu; exact hu) (fun p ys hp => hC.cont 0 k b0 p ys hbr hp) (fun q => ?_) (fun q B hB => rfl) (by cases hq : b0.mapR (injR base); rfl) hp
      rw [show gN.θ 0 (base + k) q = _ from adds_θ (gDn gc) _ t gc.κ 0 (base + k) q, if_pos ⟨rfl, by rw [hs]; rfl⟩]
      simp only [t]; rw [if_pos (by omega), show base + k - base = k by omega]
  exact ⟨cv, gN, rfl, hWN, hEm.trans hEN, hV.ren hren⟩
end
end Go.Ae
namespace Go.Ae
open Go.RowKit
set_option linter.unusedVariables false
set_option linter.unusedSimpArgs false
section
variable {P : Program} {w w0 : World} {M : Nat → Nat → Path → Option Nat} {R : Nat → Prop} {S : St} {g : G} {a : Act} {o : Oper}

theorem setCells_spec (b : Nat) : ∀ (vs : List Value) (off : Nat) (w : World) (arr : Array Value) (ty : TypeId) (fz : Nat × Nat), w.heap[b]? = some (.cells arr ty fz) → off + vs.length ≤ arr.size →
    ∃ arr', (w.setCells b off vs).heap[b]? = some (.cells arr' ty fz) ∧ arr'.size = arr.size ∧ (∀ k, arr'[k]? = if off ≤ k ∧ k < off + vs.length then vs[k - off]? else arr[k]?) ∧ (∀ B, B ≠ b → (w.setCells b off vs).heap[B]? = w.heap[B]?) ∧
      (w.setCells b off vs).heap.size = w.heap.size ∧ (w.setCells b off vs).os = w.os ∧ (w.setCells b off vs).tape = w.tape ∧ (w.setCells b off vs).output = w.output
  | [], off, w, arr, ty, fz, h, hl => ⟨arr, h, rfl, fun k => by simp; intro h1 h2; omega, fun B _ => rfl, rfl, rfl, rfl, rfl⟩
  | v :: r, off, w, arr, ty, fz, h, hl => by
    simp at hl
    have hset : (w.setCell ⟨b, off, none⟩ v).heap[b]? = some (.cells (arr.setIfInBounds off v) ty fz) := by
      simp only [World.setCell, Array.getElem?_modify, if_true, h]
      rfl
    obtain ⟨arr', e1, e2, e3, e4, e5, e6, e7, e8⟩ := setCells_spec b r (off + 1) (w.setCell ⟨b, off, none⟩ v) _ ty fz hset (by simp; omega)
    refine ⟨arr', e1, by rw [e2]; simp, fun k => ?_, fun B hB => (e4 B hB).trans (Below.heap_setCell w _ v B hB), by rw [World.setCells, e5]; simp, by rw [World.setCells, e6]; rfl, by rw [World.setCells, e7]; rfl, by rw [World.setCells, e8]; rfl⟩
    rw [e3]
    by_cases hk : k = off
    · subst hk
      have hlt : k < arr.size := by omega
      rw [if_neg (by omega), if_pos (by simp)]
      simp [hlt]
    · by_cases hr : off ≤ k ∧ k < off + (v :: r).length
      · simp only [List.length_cons] at hr
        rw [if_pos (by omega), if_pos (by simp; omega)]
        have e : k - off = (k - (off + 1)) + 1 := by omega
        rw [e, List.getElem?_cons_succ]
      · simp only [List.length_cons] at hr
        rw [if_neg (by omega), if_neg (by simp; omega), Array.getElem?_setIfInBounds_ne (by omega)]

theorem one_cell {cell : Addr → Option Value} {v : AV} {cv : Value} (h : v.one = true) (hv : VRel S g cell v cv) : cv.oneCell' = true := by
  cases v <;> simp [AV.one] at h
  case int => rw [hv.int_inv]; rfl
  case bool => rw [hv.bool_inv]; rfl
  case str => rw [hv.str_inv]; rfl
  case nil => rw [hv.nil_inv]; rfl
  case rd => cases hv.rd_inv; rfl
  case rptr => cases hv.rptr_inv; rfl
  case fn => obtain ⟨arr, rfl, _⟩ := hv.fn_inv; rfl
  case sl => cases hv with | sl _ _ _ _ _ _ _ _ hv _ => obtain ⟨A, l, c, rfl⟩ := hv; rfl
  case ptr => cases hv with | ptr _ _ _ _ _ _ _ _ hv _ => obtain ⟨x, rfl⟩ := hv; rfl

/-- A store, run. -/
theorem run_storeAt {t : TypeId} {inf : TypeInfo} {B off : Nat} {arr : Array Value} {ty : TypeId} {fz : Nat × Nat} {v : Value} {ws : List AV} {cell : Addr → Option Value} (hi : P.info? t = some inf) (hb : w.heap[B]? = some (.cells arr ty fz)) (hf : Free fz arr.size) (hl : off + inf.size ≤ arr.size)
    (hw : ws.length = v.cells.size ∧ ∀ (i : Nat) (u : AV), ws[i]? = some u → VRel S g cell u (v.cells.getD i undef)) (hn : ws.length = inf.size) (h1 : (ws.all AV.one) = true) :
    (Instr.storeAt t (.pointer (some ⟨B, off, none⟩)) v).run P w = .ok () (w.setCells B off v.cells.toList) := by
  have hsz : v.cells.size = inf.size := by omega
  have hst := run_storeCells_cells (P := P) B off v.cells.toList 0 w (fun j hj => by
      have hj' : j < v.cells.size := by simpa using hj
      rw [blk_cell' hb]
      simp; omega) (fun j hj => by
      have hj' : j < v.cells.size := by simpa using hj
      simp only [World.frozen?, hb]
      exact hf _ (by omega)) (fun u hu => by
      obtain ⟨j, hj⟩ := List.getElem?_of_mem hu
      have hjlt : j < v.cells.size := by simpa using (List.getElem?_eq_some_iff.1 hj).1
      have hwj := List.getElem?_eq_getElem (show j < ws.length by omega)
      have := hw.2 j _ hwj
      have hu' : v.cells.getD j undef = u := by
        rw [Array.getElem?_toList] at hj; simp [hj]
      rw [hu'] at this
      exact one_cell (List.all_eq_true.1 h1 _ (List.mem_of_getElem? hwj)) this)
  simp [Instr.storeAt, Instr.sureAddr, storeVar, run_sizeOf' hi, hsz]
  simpa using hst

theorem goes_store_run {t : TypeId} {x y : Operand} {w' : World} (ho : o.op = .store t x y) (h : (Instr.storeAt t (a.eval x) (a.eval y)).run P w = .ok () w') : (execOp a.eval o).run P w = .ok .skip w' := by
  unfold execOp
  rw [ho]
  show ((Instr.storeAt t (a.eval x) (a.eval y)) >>= fun _ => pure Next.skip).run P w = _
  simp [h]

/-- A place's row is written. -/
theorem WRel.write {lv s : Nat} {b b2 : Blk} {i c n : Nat} {row cs : List AV} {us : List Value} {B : Nat} {arr : Array Value} {ty : TypeId} {fz : Nat × Nat} {S2 : St} (hW : WRel w0 M R S g w) (hb : S.blk lv s = some b) (hrow : b.elems[i]? = some row) (hcn : c + n ≤ row.length) (hcs : cs.length = n) (hus : us.length = n) (hn : 0 < n)
    (hS2 : S2 = S.put lv s (some b2)) (hb2 : b2 = { b with ver := b2.ver, elems := b.elems.set i (row.take c ++ cs ++ row.drop (c + n)) }) (hver : b.ver ≤ b2.ver) (hsame : b.ver = b2.ver → ∀ i c fl zs, cellAt b2.elems i c ≠ some (.own fl zs))
    (hB : g.θ lv s [] = some B) (hheap : w.heap[B]? = some (.cells arr ty fz))
    (hq : ∀ j v, cs[j]? = some v → (b.box = true ∧ VRel S g (stab w0 R) (v.mapR (upR lv)) (us.getD j undef) ∧ ∀ fl zs, v ≠ .own fl zs) ∨ (b.box = false ∧ CellQ S g (stab w0 R) b.fl v (us.getD j undef))) :
    ∃ g2, WRel w0 M R S2 g2 (w.setCells B (i * b.sz + c) us) ∧ Ext S g S2 g2 := by
  have hget := blk_get hb
  obtain ⟨d1, d2, d3⟩ := hW.cont lv s b [] b.elems hb rfl
  rw [hB] at d3
  obtain ⟨arr0, ty0, fz0, a1, a2, a3, a4, a5⟩ := d3
  rw [hheap] at a1; cases a1
  have hcz : csz b.sz [] b.elems = b.sz := rfl
  rw [hcz] at d1 d2 a4 a5
  have hrl : row.length = b.sz := d1 row (List.mem_of_getElem? hrow)
  have hilt : i < b.elems.length := (List.getElem?_eq_some_iff.1 hrow).1
  have hmul : i * b.sz + b.sz ≤ b.elems.length * b.sz := by
    have := Nat.mul_le_mul_right b.sz (show i + 1 ≤ b.elems.length from hilt)
    rwa [Nat.add_mul, Nat.one_mul] at this
  obtain ⟨arr', e1, e2, e3, e4, e5, e6, e7, e8⟩ := setCells_spec B us (i * b.sz + c) w arr ty fz hheap (by omega)
  have q1 : b2.sz = b.sz := by rw [hb2]
  have q2 : b2.box = b.box := by rw [hb2]
  have q3 : b2.fl = b.fl := by rw [hb2]
  have q4 : b2.elems = b.elems.set i (row.take c ++ cs ++ row.drop (c + n)) := by rw [hb2]
  -- the cells of the new content
  have hcell : ∀ i' c' v, cellAt b2.elems i' c' = some v → (i' = i ∧ c ≤ c' ∧ c' < c + n ∧ cs[c' - c]? = some v) ∨ (¬ (i' = i ∧ c ≤ c' ∧ c' < c + n) ∧ cellAt b.elems i' c' = some v) := by
    intro i' c' v hv
    rw [q4] at hv
    rcases cellAt_set hv with ⟨rfl, _, hc'⟩ | ⟨hne, hc'⟩
    · have hl1 : (row.take c).length = c := by simp; omega
      by_cases h1 : c' < c
      · rw [List.append_assoc, List.getElem?_append_left (by omega), List.getElem?_take, if_pos h1] at hc'
        exact .inr ⟨by omega, by rw [cellAt_row hrow]; exact hc'⟩
      · by_cases h2 : c' < c + n
        · rw [List.append_assoc, List.getElem?_append_right (by omega), hl1, List.getElem?_append_left (by omega)] at hc'
          exact .inl ⟨rfl, by omega, h2, hc'⟩
        · rw [List.getElem?_append_right (by simp; omega), List.getElem?_drop] at hc'
          simp only [List.length_append, hl1, hcs] at hc'
          have e : c + n + (c' - (c + n)) = c' := by omega
          rw [e] at hc'
          exact .inr ⟨by omega, by rw [cellAt_row hrow]; exact hc'⟩
    · exact .inr ⟨fun h => hne h.1, hc'⟩
  let drop : Path → Bool := fun p => match p with | (i', c') :: _ => decide (i' = i ∧ c ≤ c' ∧ c' < c + n) | [] => false
  let g2 : G := { θ := fun lv' s' p => if lv' = lv ∧ s' = s ∧ drop p = true then none else g.θ lv' s' p, κ := g.κ }
  have hθ0 : ∀ lv' s' p B', g2.θ lv' s' p = some B' → g.θ lv' s' p = some B' := fun lv' s' p B' h => by
    simp only [g2] at h
    split at h
    · cases h
    · exact h
  have hθnil : ∀ lv' s', g2.θ lv' s' [] = g.θ lv' s' [] := fun lv' s' => by simp [g2, drop]
  have hθoth : ∀ lv' s' p, ¬ (lv' = lv ∧ s' = s) → g2.θ lv' s' p = g.θ lv' s' p := fun lv' s' p h => by
    simp only [g2]; rw [if_neg fun hh => h ⟨hh.1, hh.2.1⟩]
  have hblk : ∀ lv' s', S2.blk lv' s' = if lv' = lv ∧ s' = s then some b2 else S.blk lv' s' := fun lv' s' => by rw [hS2, blk_put hget]
  have hnav : ∀ p ys, navE b2.elems p = some ys → p = [] ∧ ys = b2.elems ∨ ∃ i' c' q fl zs, p = (i', c') :: q ∧ cellAt b2.elems i' c' = some (.own fl zs) ∧ navE zs q = some ys := by
    intro p ys hp
    cases p with
    | nil => left; simp [navE] at hp; exact ⟨rfl, hp.symm⟩
    | cons x q =>
      obtain ⟨i', c'⟩ := x
      right
      simp only [navE] at hp
      cases hu : cellAt b2.elems i' c' with
      | none => simp [hu] at hp
      | some v =>
        cases v with
        | own fl zs => simp only [hu] at hp; exact ⟨i', c', q, fl, zs, rfl, hu, hp⟩
        | _ => simp [hu] at hp
  have hE : Ext S g S2 g2 := by
    refine ExtS.ext ?_
    intro lv' s' ob hob
    rw [hS2]
    by_cases hc : lv' = lv ∧ s' = s
    · obtain ⟨rfl, rfl⟩ := hc
      rw [hget] at hob; cases hob
      refine ⟨some b2, by rw [get_put hget]; simp, fun b' hb' => ?_⟩
      cases hb'
      refine ⟨b, rfl, hver, fun hv => ⟨q1, fun p ys hp => ?_⟩⟩
      obtain ⟨rfl, rfl⟩ := box_nav (hsame hv) hp
      exact ⟨b.elems, rfl, by rw [q4]; simp, q1, hθnil _ _, fun B' _ => rfl⟩
    · refine ⟨ob, by rw [get_put hget, if_neg hc]; exact hob, fun b' hb' => ⟨b', hb', Nat.le_refl _, fun _ => ⟨rfl, fun p ys hp => ⟨ys, hp, Nat.le_refl _, rfl, hθoth _ _ _ hc, fun _ _ => rfl⟩⟩⟩⟩
  refine ⟨g2, ?_, hE⟩
  refine { os := e6.trans hW.os, tape := e7.trans hW.tape, output := e8.trans hW.output, size := by rw [e5]; exact hW.size, keep := fun B' hB' hM => ?_, rng := fun lv' s' p B' h => by rw [e5]; exact hW.rng _ _ _ _ (hθ0 _ _ _ _ h),
           fresh := fun s' p B' h => hW.fresh _ _ _ (hθ0 _ _ _ _ h), ext := fun lv' s' p B' h => hW.ext _ _ _ _ (hθ0 _ _ _ _ h), inj := fun lv1 s1 p1 lv2 s2 p2 B' h h' => hW.inj _ _ _ _ _ _ B' (hθ0 _ _ _ _ h) (hθ0 _ _ _ _ h'), cont := fun lv' s' b' p ys hb' hp => ?_ }
  · have hne : B' ≠ B := by
      rintro rfl
      cases lv with
      | zero => have := hW.fresh s [] B' hB; omega
      | succ m => rcases hW.ext m s [] B' hB with h | h
                  · exact hM _ _ _ h
                  · omega
    exact (e4 B' hne).trans (hW.keep B' hB' hM)
  · rw [hblk] at hb'
    by_cases hc : lv' = lv ∧ s' = s
    · rw [if_pos hc] at hb'; cases hb'
      obtain ⟨rfl, rfl⟩ := hc
      rcases hnav p ys hp with ⟨rfl, rfl⟩ | ⟨i', c', q, fl, zs, rfl, hown, hq'⟩
      · have hcz2 : csz b2.sz [] b2.elems = b.sz := q1
        refine ⟨fun r hr => ?_, fun hne => ?_, ?_⟩
        · rw [hcz2]
          rw [q4] at hr
          rcases List.mem_or_eq_of_mem_set hr with hr | rfl
          · exact d1 r hr
          · simp; omega
        · rw [hcz2]; exact d2 fun h => by rw [h] at hrow; simp at hrow
        · rw [hθnil, hB]
          refine ⟨arr', ty, fz, e1, by rw [e2, hcz2]; exact a2, by rw [e2]; exact a3, by rw [hcz2, e2, q4]; simpa using a4, fun i' c' v hv => ?_⟩
          rw [hcz2]
          have hc'lt : c' < b.sz := by
            rw [q4] at hv
            unfold cellAt at hv
            split at hv
            · rename_i r hr
              have hlt := (List.getElem?_eq_some_iff.1 hv).1
              rcases List.mem_or_eq_of_mem_set (List.mem_of_getElem? hr) with hr' | rfl
              · rw [d1 r hr'] at hlt; exact hlt
              · simp at hlt; omega
            · cases hv
          rcases hcell i' c' v hv with ⟨rfl, h1, h2, h3⟩ | ⟨hnot, hold⟩
          · have hu : us[c' - c]? = some (us.getD (c' - c) undef) := by
              have : c' - c < us.length := by omega
              simp [List.getD, this]
            refine ⟨us.getD (c' - c) undef, ?_, ?_⟩
            · rw [e3, if_pos (by omega)]
              have e : i' * b.sz + c' - (i' * b.sz + c) = c' - c := by omega
              rw [e]; exact hu
            · rcases hq _ _ h3 with ⟨hbx, hv1, hv2⟩ | ⟨hbx, hv1⟩
              · have hv1' := hv1.mono hE
                cases v <;> first | exact absurd rfl (hv2 _ _) | exact ⟨hv1', fun h => by rw [q2, hbx] at h; cases h⟩
              · rcases hv1 with ⟨hs, hv1⟩ | ⟨f, rfl, hfl, hcv⟩
                · have hv1' := hv1.mono hE
                  rw [← scal_mapR (f := upR lv') hs] at hv1'
                  cases v <;> first | exact ⟨hv1', fun _ => hs⟩ | simp [AV.scal] at hs
                · refine ⟨by rw [q2]; exact hbx, by rw [q3]; exact hfl, fun _ r hr => by simp at hr, none, 0, hcv, Nat.le_refl _, ?_⟩
                  have : g2.θ lv' s' ([] ++ [(i', c')]) = none := by
                    simp only [g2, drop, List.nil_append]
                    rw [if_pos (by refine ⟨by simp, by simp, ?_⟩; simp; omega)]
                  rw [this]; exact ⟨rfl, rfl⟩
          · obtain ⟨cv, k1, k2⟩ := a5 i' c' v hold
            refine ⟨cv, ?_, ?_⟩
            · rw [e3, if_neg ?_]
              · exact k1
              · rintro ⟨q5, q6⟩
                have hii : i' ≠ i ∨ i' = i := by omega
                rcases hii with hne | rfl
                · rcases Nat.lt_or_gt_of_ne hne with hlt | hgt
                  · have := Nat.mul_le_mul_right b.sz (show i' + 1 ≤ i from hlt)
                    rw [Nat.add_mul, Nat.one_mul] at this; omega
                  · have := Nat.mul_le_mul_right b.sz (show i + 1 ≤ i' from hgt)
                    rw [Nat.add_mul, Nat.one_mul] at this; omega
                · exact hnot ⟨rfl, by omega, by omega⟩
            · have k2' := k2
              cases v with
              | own fl zs =>
                obtain ⟨m1, m2, m3, m4⟩ := k2'
                refine ⟨by rw [q2]; exact m1, by rw [q3]; exact m2, m3, ?_⟩
                have : g2.θ lv' s' ([] ++ [(i', c')]) = g.θ lv' s' ([] ++ [(i', c')]) := by
                  simp only [g2, drop, List.nil_append]
                  rw [if_neg (by simpa using hnot)]
                rw [this]; exact m4
              | _ => exact ⟨k2'.1.mono hE, fun h => k2'.2 (by rw [← q2]; exact h)⟩
      · -- a row inside: it is as it was, or has no cells
        rcases hcell i' c' _ hown with ⟨rfl, h1, h2, h3⟩ | ⟨hnot, hold⟩
        · have hz : zs = [] := by
            rcases hq _ _ h3 with ⟨_, _, hv2⟩ | ⟨_, hv1⟩
            · exact absurd rfl (hv2 _ _)
            · rcases hv1 with ⟨hs, _⟩ | ⟨f, he, _⟩
              · simp [AV.scal] at hs
              · cases he; rfl
          subst hz
          have hys : ys = [] := by
            cases q with
            | nil => simpa [navE] using hq'.symm
            | cons x r => obtain ⟨i3, c3⟩ := x; simp [navE, cellAt] at hq'
          subst hys
          refine ⟨fun r hr => by simp at hr, fun h => absurd rfl h, ?_⟩
          have : g2.θ lv' s' ((i', c') :: q) = none := by
            simp only [g2, drop]
            rw [if_pos (by refine ⟨by simp, by simp, ?_⟩; simp; omega)]
          rw [this]
        · have hnav0 : navE b.elems ((i', c') :: q) = some ys := by simp only [navE, hold]; exact hq'
          have hcont := hW.cont lv' s' b ((i', c') :: q) ys hb hnav0
          obtain ⟨c1, c2, c3⟩ := hcont
          refine ⟨c1, c2, ?_⟩
          have hθq : ∀ q', g2.θ lv' s' ((i', c') :: q') = g.θ lv' s' ((i', c') :: q') := fun q' => by
            simp only [g2, drop]
            rw [if_neg (by simpa using hnot)]
          rw [hθq]
          cases hB' : g.θ lv' s' ((i', c') :: q) with
          | none => rw [hB'] at c3; exact c3
          | some B' =>
            rw [hB'] at c3
            obtain ⟨arr1, ty1, fz1, f1, f2, f3, f4, f5⟩ := c3
            have hne : B' ≠ B := fun h => by
              subst h
              have := (hW.inj _ _ _ _ _ _ _ hB hB').2.2
              cases this
            refine ⟨arr1, ty1, fz1, (e4 B' hne).trans f1, f2, f3, f4, fun i3 c3 v hv => ?_⟩
            obtain ⟨cv, k1, k2⟩ := f5 i3 c3 v hv
            refine ⟨cv, k1, ?_⟩
            cases v with
            | own fl' zs' =>
              obtain ⟨m1, m2, m3, m4⟩ := k2
              refine ⟨by rw [q2]; exact m1, by rw [q3]; exact m2, m3, ?_⟩
              rw [show ((i', c') :: q) ++ [(i3, c3)] = (i', c') :: (q ++ [(i3, c3)]) from rfl, hθq]; exact m4
            | _ => exact ⟨k2.1.mono hE, fun h => k2.2 (by rw [← q2]; exact h)⟩
    · rw [if_neg hc] at hb'
      refine (hW.cont lv' s' b' p ys hb' hp).mono hE (fun q => hθoth _ _ q hc) fun B' hB' => ⟨e4 B' ?_, rfl⟩
      rintro rfl
      obtain ⟨h1, h2, _⟩ := hW.inj _ _ _ _ _ _ _ hB hB'
      exact hc ⟨h1.symm, h2.symm⟩
end
end Go.Ae
namespace Go.Ae
open Go.RowKit
set_option linter.unusedVariables false
set_option linter.unusedSimpArgs false
section
variable {P : Program} {w w0 : World} {M : Nat → Nat → Path → Option Nat} {R : Nat → Prop} {S : St} {g : G} {a : Act} {o : Oper}

/-- What an operation comes to. -/
def Does (P : Program) (w0 : World) (M : Nat → Nat → Path → Option Nat) (R : Nat → Prop) (S : St) (g : G) (a : Act) (w : World) (o : Oper) (S' : St) (v : AV) : Prop :=
  ∀ (next : Act → World → Prop) (Q : Exit → Act → World → Prop), (∀ cv w' g', Outc w0 M R S g S' v cv w' g' → next (a.put o.dst cv) w') → o.wp P a w next Q
theorem Goes.does {S' : St} {v : AV} (h : Goes P w0 M R S g a w o S' v) : Does P w0 M R S g a w o S' v := by
  intro next Q hn
  obtain ⟨cv, w', g', h1, h2⟩ := h
  unfold Oper.wp
  rw [h1]
  exact hn cv w' g' h2

theorem addNews_blk : ∀ {l : List (Nat × Blk)} {S S' : St}, addNews S l = some S' → ∀ {lv s : Nat} {b : Blk}, S.blk lv s = some b → S'.blk lv s = some b
  | [], S, S', h, lv, s, b, hb => by simp [addNews] at h; subst h; exact hb
  | (s0, b0) :: r, S, S', h, lv, s, b, hb => by
    obtain ⟨S1, h1, h2⟩ := addNews_cons h
    refine addNews_blk h2 ?_
    rw [new_blk h1]
    split
    · rename_i hc
      obtain ⟨rfl, rfl⟩ := hc
      have := blk_get hb
      rw [show S.heap 0 = S.loc from rfl, (new_get h1).1] at this
      cases this
    · exact hb

theorem nav_row {elems : List (List AV)} {p : Path} {ys : List (List AV)} {i : Nat} {row : List AV} (h : navE elems p = some ys) (hp : p = []) (hi : ys[i]? = some row) : elems[i]? = some row := by
  subst hp; simp [navE] at h; rw [h]; exact hi

/-- The store's core: the cells are there, the row is written. -/
theorem store_core {t : TypeId} {x y : Operand} {inf : TypeInfo} {lv s ver i c n : Nat} {b b2 : Blk} {row ws cs : List AV} {S1 S2 : St} {g1 : G} (ho : o.op = .store t x y) (hi : P.info? t = some inf) (hn : n = inf.size) (hpos : 0 < n)
    (hW : WRel w0 M R S1 g1 w) (hE : Ext S g S1 g1) (hb : S1.blk lv s = some b) (hver0 : ver = b.ver) (hrow : b.elems[i]? = some row) (hcn : c + n ≤ row.length)
    (hvx : VRel S1 g1 (stab w0 R) (.ptr lv s ver [] i c) (a.eval x)) (hws : ws.length = n) (h1 : ws.all AV.one = true)
    (hcells : ws.length = (a.eval y).cells.size ∧ ∀ (i : Nat) (u : AV), ws[i]? = some u → VRel S1 g1 (stab w0 R) u ((a.eval y).cells.getD i undef)) (hcs : cs.length = n)
    (hS2 : S2 = S1.put lv s (some b2)) (hb2 : b2 = { b with ver := b2.ver, elems := b.elems.set i (row.take c ++ cs ++ row.drop (c + n)) }) (hver : b.ver ≤ b2.ver) (hsame : b.ver = b2.ver → ∀ i c fl zs, cellAt b2.elems i c ≠ some (.own fl zs))
    (hq : ∀ (j : Nat) (v : AV), cs[j]? = some v → (b.box = true ∧ VRel S1 g1 (stab w0 R) (v.mapR (upR lv)) ((a.eval y).cells.getD j undef) ∧ ∀ fl zs, v ≠ .own fl zs) ∨ (b.box = false ∧ CellQ S1 g1 (stab w0 R) b.fl v ((a.eval y).cells.getD j undef))) :
    Does P w0 M R S g a w o S2 .skp := by
  intro next Q hnext
  have hat : S1.at lv s ver [] = some (b, b.elems) := at_mk hb hver0 rfl
  obtain ⟨B, arr, ty, fz, k1, k2, k3, k4, k5, k6, k7, k8, _⟩ := own_cells hW hat hrow hcn (hvx.ptr_inv.2 _ _ hat)
  have hcz : csz b.sz [] b.elems = b.sz := rfl
  rw [hcz] at k1 k6 k7 k8
  have hlen : (a.eval y).cells.toList.length = n := by simp; omega
  obtain ⟨g2, hW2, hE2⟩ := hW.write (us := (a.eval y).cells.toList) hb hrow hcn hcs hlen hpos hS2 hb2 hver hsame k2 k3 (fun j v hj => by
    have := hq j v hj
    rwa [show (a.eval y).cells.toList.getD j undef = (a.eval y).cells.getD j undef by simp [List.getD, Array.getD_eq_getD_getElem?]])
  have hrun := run_storeAt (P := P) (w := w) (t := t) (B := B) (off := i * b.sz + c) (v := a.eval y) hi k3 k4 (by omega) hcells (by omega) h1
  rw [← k1] at hrun
  have := goes_store_run (a := a) ho hrun
  unfold Oper.wp
  rw [this]
  exact hnext undef _ g2 ⟨hW2, hE.trans hE2, .skp⟩

theorem all_get {p : AV → Bool} {ws : List AV} (h : ws.all p = true) {j : Nat} {v : AV} (hj : ws[j]? = some v) : p v = true := List.all_eq_true.1 h _ (List.mem_of_getElem? hj)

theorem set_own {xs : List (List AV)} {i : Nat} {row cs : List AV} {c n : Nat} (hrow : xs[i]? = some row) (h0 : ∀ i c fl zs, cellAt xs i c ≠ some (.own fl zs)) (h1 : ∀ (j : Nat) (v : AV), cs[j]? = some v → ∀ fl zs, v ≠ .own fl zs) :
    ∀ i' c' fl zs, cellAt (xs.set i (row.take c ++ cs ++ row.drop (c + n))) i' c' ≠ some (.own fl zs) := by
  intro i' c' fl zs h
  rcases cellAt_set h with ⟨rfl, _, hc⟩ | ⟨_, hc⟩
  · have hm := List.mem_of_getElem? hc
    simp only [List.mem_append] at hm
    have hrow' : ∀ u ∈ row, u = .own fl zs → False := fun u hu e => by
      subst e
      obtain ⟨j, hj⟩ := List.getElem?_of_mem hu
      exact h0 i' j fl zs (by rw [cellAt_row hrow]; exact hj)
    rcases hm with (hm | hm) | hm
    · exact hrow' _ (List.mem_of_mem_take hm) rfl
    · obtain ⟨j, hj⟩ := List.getElem?_of_mem hm
      exact h1 j _ hj fl zs rfl
    · exact hrow' _ (List.mem_of_mem_drop hm) rfl
  · exact h0 _ _ _ _ hc

theorem store_does {O : Oracle} {md : Nat → Mode} {t : TypeId} {x y : Operand} {xa xx : X} {inf : TypeInfo} {n base : Nat} {v : AV} {S' : St} (ho : o.op = .store t x y) (hi : P.info? t = some inf) (hn : n = inf.size) (hpos : 0 < n)
    (hW : WRel w0 M R S g w) (hx : VRel S g (stab w0 R) (evalX S xa) (a.eval x)) (hy : VRel S g (stab w0 R) (evalX S xx) (a.eval y)) (h : evalW O md S base (.store n xa xx) = some (v, S')) : Does P w0 M R S g a w o S' v := by
  simp only [evalW] at h
  split at h
  · rename_i lv s ver p i c ws hxa hws
    rw [hxa] at hx
    have hcells := cells_rel hy hws
    split at h
    · rename_i b ys hat
      obtain ⟨hb, hver, hnav⟩ := at_blk hat
      split at h
      · rename_i row hrow0
        split at h
        · rename_i hc
          obtain ⟨hc1, hc2, hc3⟩ := hc
          have hcont := hW.cont lv s b [] b.elems hb rfl
          split at h
          · rename_i hbox
            obtain ⟨rfl, rfl⟩ := box_nav (fun i c fl zs => box_own hcont hbox) hnav
            split at h
            · split at h
              · rename_i hsc
                cases h
                refine store_core ho hi hn hpos hW (.refl _ _) hb hver hrow0 hc1 hx hc2 hc3 hcells hc2 rfl rfl (Nat.le_refl _) (fun _ => set_own hrow0 (fun i c fl zs => box_own hcont hbox) fun j u hj fl zs he => ?_) fun j u hj => ?_
                · have := all_get hsc hj; rw [he] at this; simp [AV.scal] at this
                · have hs := all_get hsc hj
                  refine .inl ⟨hbox, by rw [scal_mapR hs]; exact hcells.2 j u hj, fun fl zs he => by rw [he] at hs; simp [AV.scal] at hs⟩
              · cases h
            · rename_i hlv
              have hlv0 : lv = 0 := by omega
              subst hlv0
              split at h
              · rename_i cs news hbc
                split at h
                · rename_i S1 hS1
                  cases h
                  obtain ⟨g1, e1, e2, e3, e4, e5⟩ := boxCells_rel (cvs := fun i => (a.eval y).cells.getD i undef) hbc hS1 hW hcells.2
                  refine store_core ho hi hn hpos e1 e2 (addNews_blk hS1 hb) hver hrow0 hc1 (hx.mono e2) hc2 hc3 ⟨hcells.1, fun j u hj => (hcells.2 j u hj).mono e2⟩ (by omega) rfl rfl (Nat.le_refl _)
                    (fun _ => set_own hrow0 (fun i c fl zs => box_own hcont hbox) fun j u hj => (e5 j u hj).2) fun j u hj => .inl ⟨hbox, by rw [mapR_up0]; exact (e5 j u hj).1, (e5 j u hj).2⟩
                · cases h
              · cases h
          · rename_i hbox
            have hbox' : b.box = false := by simpa using hbox
            split at h
            · split at h
              · rename_i cs hrc
                cases h
                have hrow : b.elems[i]? = some row := nav_row hnav rfl hrow0
                simp only [navE, Option.some.injEq] at hnav
                subst hnav
                obtain ⟨e1, e2⟩ := rowCells_rel (us := fun i => (a.eval y).cells.getD i undef) hrc hcells.2
                refine store_core ho hi hn hpos hW (.refl _ _) hb hver hrow hc1 hx hc2 hc3 hcells (by omega) rfl rfl (by simp; split <;> omega) (fun hv => ?_) fun j u hj => .inr ⟨hbox', e2 j u hj⟩
                simp only at hv
                have hfl : b.fl = true := by
                  by_cases hf : b.fl = true
                  · exact hf
                  · rw [if_neg hf] at hv; omega
                have hold := flat_scal hW hb hbox' hfl (show navE b.elems [] = some b.elems from rfl)
                refine set_own hrow (fun i c fl zs hh => ?_) fun j u hj fl zs he => ?_
                · unfold cellAt at hh
                  split at hh
                  · rename_i r hr
                    have := hold r (List.mem_of_getElem? hr) _ (List.mem_of_getElem? hh)
                    simp [AV.scal] at this
                  · cases hh
                · rcases e2 j u hj with ⟨hs, _⟩ | ⟨f, _, hf, _⟩
                  · rw [he] at hs; simp [AV.scal] at hs
                  · rw [hfl] at hf; cases hf
              · cases h
            · cases h
        · cases h
      · cases h
    · cases h
  · cases h
end
end Go.Ae
namespace Go.Ae
open Go.RowKit
set_option linter.unusedVariables false
set_option linter.unusedSimpArgs false
section
variable {P : Program} {w w' w0 : World} {M : Nat → Nat → Path → Option Nat} {R : Nat → Prop} {S : St} {g : G} {a : Act} {o : Oper}

/-- A place has changed. -/
theorem WRel.change {lv s : Nat} {b b2 : Blk} {S2 : St} {g2 : G} {T : Nat → Prop} (hW : WRel w0 M R S g w) (hb : S.blk lv s = some b) (hS2 : S2 = S.put lv s (some b2)) (hver : b.ver < b2.ver)
    (hoth : ∀ lv' s' p, ¬ (lv' = lv ∧ s' = s) → g2.θ lv' s' p = g.θ lv' s' p)
    (hin : ∀ p B, g2.θ lv s p = some B → g.θ lv s p = some B ∨ (p = [] ∧ B = w.heap.size ∧ B < w'.heap.size))
    (hκ : ∀ B, B < w.heap.size → ¬ T B → g2.κ B = g.κ B) (hT : ∀ B, T B → ∃ p, g.θ lv s p = some B)
    (hos : w'.os = w.os) (htape : w'.tape = w.tape) (hout : w'.output = w.output) (hsz : w.heap.size ≤ w'.heap.size) (hk : ∀ B, B < w.heap.size → ¬ T B → w'.heap[B]? = w.heap[B]?)
    (hcont : Ext S g S2 g2 → ∀ p ys, navE b2.elems p = some ys → Cont (stab w0 R) S2 g2 w' lv s b2 p ys) : WRel w0 M R S2 g2 w' ∧ Ext S g S2 g2 := by
  have hget := blk_get hb
  have hTo : ∀ lv' s' p B, ¬ (lv' = lv ∧ s' = s) → g.θ lv' s' p = some B → ¬ T B := fun lv' s' p B hc hB ht => by
    obtain ⟨q, hq⟩ := hT B ht
    obtain ⟨h1, h2, _⟩ := hW.inj _ _ _ _ _ _ _ hB hq
    exact hc ⟨h1, h2⟩
  have hE : Ext S g S2 g2 := by
    refine ExtS.ext ?_
    intro lv' s' ob hob
    rw [hS2]
    by_cases hc : lv' = lv ∧ s' = s
    · obtain ⟨rfl, rfl⟩ := hc
      rw [hget] at hob; cases hob
      refine ⟨some b2, by rw [get_put hget]; simp, fun b' hb' => ?_⟩
      cases hb'
      exact ⟨b, rfl, Nat.le_of_lt hver, fun hv => by omega⟩
    · refine ⟨ob, by rw [get_put hget, if_neg hc]; exact hob, fun b' hb' => ⟨b', hb', Nat.le_refl _, fun _ => ⟨rfl, fun p ys hp => ⟨ys, hp, Nat.le_refl _, rfl, hoth _ _ _ hc, fun B' hB' => ?_⟩⟩⟩⟩
      exact hκ B' (hW.rng _ _ _ _ hB') (hTo _ _ _ _ hc hB')
  refine ⟨?_, hE⟩
  have hnew : ∀ lv' s' p B, g2.θ lv' s' p = some B → g.θ lv' s' p = some B ∨ ((lv' = lv ∧ s' = s) ∧ p = [] ∧ B = w.heap.size ∧ B < w'.heap.size) := fun lv' s' p B hB => by
    by_cases hc : lv' = lv ∧ s' = s
    · obtain ⟨rfl, rfl⟩ := hc
      rcases hin p B hB with h | h
      · exact .inl h
      · exact .inr ⟨⟨rfl, rfl⟩, h⟩
    · rw [hoth _ _ _ hc] at hB; exact .inl hB
  refine { os := hos.trans hW.os, tape := htape.trans hW.tape, output := hout.trans hW.output, size := Nat.le_trans hW.size hsz, keep := fun B' hB' hM => ?_, rng := fun lv' s' p B' h => ?_,
           fresh := fun s' p B' h => ?_, ext := fun lv' s' p B' h => ?_, inj := fun lv1 s1 p1 lv2 s2 p2 B' h h' => ?_, cont := fun lv' s' b' p ys hb' hp => ?_ }
  · have hlt : B' < w.heap.size := Nat.lt_of_lt_of_le hB' hW.size
    have hnt : ¬ T B' := fun ht => by
      obtain ⟨q, hq⟩ := hT B' ht
      cases lv with
      | zero => have := hW.fresh s q B' hq; omega
      | succ m => rcases hW.ext m s q B' hq with h | h
                  · exact hM _ _ _ h
                  · omega
    exact (hk B' hlt hnt).trans (hW.keep B' hB' hM)
  · rcases hnew _ _ _ _ h with h | ⟨_, _, rfl, h⟩
    · exact Nat.lt_of_lt_of_le (hW.rng _ _ _ _ h) hsz
    · exact h
  · rcases hnew _ _ _ _ h with h | ⟨_, _, rfl, h⟩
    · exact hW.fresh _ _ _ h
    · exact hW.size
  · rcases hnew _ _ _ _ h with h | ⟨_, _, rfl, h⟩
    · exact hW.ext _ _ _ _ h
    · exact .inr hW.size
  · rcases hnew _ _ _ _ h with h | ⟨⟨rfl, rfl⟩, rfl, rfl, _⟩ <;> rcases hnew _ _ _ _ h' with h' | ⟨⟨rfl, rfl⟩, rfl, e, _⟩
    · exact hW.inj _ _ _ _ _ _ _ h h'
    · subst e; have := hW.rng _ _ _ _ h; omega
    · have := hW.rng _ _ _ _ h'; omega
    · exact ⟨rfl, rfl, rfl⟩
  · rw [hS2, blk_put hget] at hb'
    by_cases hc : lv' = lv ∧ s' = s
    · rw [if_pos hc] at hb'; cases hb'
      obtain ⟨rfl, rfl⟩ := hc
      exact hcont hE p ys hp
    · rw [if_neg hc] at hb'
      refine (hW.cont lv' s' b' p ys hb' hp).mono hE (fun q => hoth _ _ q hc) fun B' hB' => ?_
      have hlt := hW.rng _ _ _ _ hB'
      have hnt := hTo _ _ _ _ hc hB'
      exact ⟨hk B' hlt hnt, hκ B' hlt hnt⟩

/-- What an append takes, out of rows. -/
theorem src_of {cell : Addr → Option Value} {tx e' : TypeId} {A : Option Addr} {n cap sz : Nat} {rows : List (List AV)} (hk : P.underlying tx = some (.slice e')) (hn : rows.length = n) (hsz : ∀ r ∈ rows, r.length = sz) (hpos : 0 < sz)
    (hc : ∀ i c v, cellAt rows i c = some v → v.scal = true ∧ ∃ ad cv, A = some ad ∧ w.cell? (ad.add (i * sz + c)) = some cv ∧ VRel S g cell v cv) :
    ∃ news, Src P sz tx (.slice A n cap) n news w ∧ ∀ i c v, cellAt rows i c = some v → v.scal = true ∧ ∃ cv, news[i * sz + c]? = some cv ∧ VRel S g cell v cv := by
  cases A with
  | none =>
    have h0 : rows = [] := by
      cases rows with
      | nil => rfl
      | cons r rs =>
        have hr := hsz r (by simp)
        have : cellAt (r :: rs) 0 0 = some (r[0]'(by omega)) := by simp [cellAt]
        obtain ⟨_, ad, cv, he, _⟩ := hc 0 0 _ this
        cases he
    subst h0
    simp at hn; subst hn
    exact ⟨[], Src.ofNil w hk cap, fun i c v h => by simp [cellAt] at h⟩
  | some ad =>
    have hdec : ∀ j, j < n * sz → ∃ v, cellAt rows (j / sz) (j % sz) = some v := fun j hj => by
      have h1 : j / sz < rows.length := by rw [hn]; exact Nat.div_lt_of_lt_mul (by rwa [Nat.mul_comm] at hj)
      have h2 := hsz _ (List.getElem_mem h1)
      have h3 : j % sz < (rows[j / sz]).length := by rw [h2]; exact Nat.mod_lt _ hpos
      exact ⟨_, by unfold cellAt; rw [List.getElem?_eq_getElem h1]; exact List.getElem?_eq_getElem h3⟩
    have hcj : ∀ j, j < n * sz → ∃ v cv, cellAt rows (j / sz) (j % sz) = some v ∧ v.scal = true ∧ w.cell? (ad.add j) = some cv ∧ VRel S g cell v cv := fun j hj => by
      obtain ⟨v, hv⟩ := hdec j hj
      obtain ⟨hs, ad', cv, he, h1, h2⟩ := hc _ _ v hv
      cases he
      have e : j / sz * sz + j % sz = j := by rw [Nat.mul_comm]; exact Nat.div_add_mod j sz
      rw [e] at h1
      exact ⟨v, cv, hv, hs, h1, h2⟩
    let news := (List.range (n * sz)).map fun j => (w.cell? (ad.add j)).getD undef
    have hget : ∀ j u, news[j]? = some u → j < n * sz ∧ w.cell? (ad.add j) = some u ∧ ∃ v, v.scal = true ∧ VRel S g cell v u := fun j u hj => by
      have hlt : j < n * sz := by have := (List.getElem?_eq_some_iff.1 hj).1; simpa [news] using this
      obtain ⟨v, cv, _, hs, h1, h2⟩ := hcj j hlt
      have hu : u = cv := by
        simp only [news, List.getElem?_map, List.getElem?_range hlt, Option.map_some, h1, Option.getD_some, Option.some.injEq] at hj
        exact hj.symm
      subst hu
      exact ⟨hlt, h1, v, hs, h2⟩
    refine ⟨news, Src.ofSlice w hk ad n cap news (by simp [news]) (fun j u hj => (hget j u hj).2.1) (fun u hu => ?_), fun i c v hv => ?_⟩
    · obtain ⟨j, hj⟩ := List.getElem?_of_mem hu
      obtain ⟨_, _, v, hs, hr⟩ := hget j u hj
      cases v <;> simp [AV.scal] at hs
      · rw [hr.int_inv]; rfl
      · rw [hr.bool_inv]; rfl
      · rw [hr.str_inv]; rfl
    · obtain ⟨hs, ad', cv, he, h1, h2⟩ := hc _ _ v hv
      cases he
      have hilt : i < rows.length ∧ c < sz := by
        unfold cellAt at hv
        split at hv
        · rename_i r hr
          have := hsz r (List.mem_of_getElem? hr)
          exact ⟨(List.getElem?_eq_some_iff.1 hr).1, by rw [← this]; exact (List.getElem?_eq_some_iff.1 hv).1⟩
        · cases hv
      have hlt : i * sz + c < n * sz := by
        have := Nat.mul_le_mul_right sz (show i + 1 ≤ n by omega)
        rw [Nat.add_mul, Nat.one_mul] at this; omega
      refine ⟨hs, cv, ?_, h2⟩
      simp only [news, List.getElem?_map, List.getElem?_range hlt, Option.map_some, h1, Option.getD_some]

theorem cellAt_append {xs ys : List (List AV)} {i c : Nat} {v : AV} (h : cellAt (xs ++ ys) i c = some v) : (i < xs.length ∧ cellAt xs i c = some v) ∨ (xs.length ≤ i ∧ cellAt ys (i - xs.length) c = some v) := by
  unfold cellAt at h ⊢
  by_cases hi : i < xs.length
  · rw [List.getElem?_append_left hi] at h; exact .inl ⟨hi, h⟩
  · rw [List.getElem?_append_right (by omega)] at h; exact .inr ⟨by omega, h⟩
theorem cellAt_drop {ys : List (List AV)} {off len i c : Nat} {v : AV} (h : cellAt ((ys.drop off).take len) i c = some v) : i < len ∧ cellAt ys (off + i) c = some v := by
  unfold cellAt at h ⊢
  rw [List.getElem?_take] at h
  split at h
  · rename_i r hr
    split at hr
    · rename_i hlt
      rw [List.getElem?_drop] at hr
      rw [hr]; exact ⟨hlt, h⟩
    · cases hr
  · cases h

/-- What an append's second operand gives. -/
theorem source_src {tx e' : TypeId} {sz : Nat} {v : AV} {cv : Value} {rows : List (List AV)} (hk : P.underlying tx = some (.slice e')) (hR : RdW w0 M R) (hW : WRel w0 M R S g w) (hv : VRel S g (stab w0 R) v cv) (hs : source S v = some rows)
    (hsz : ∀ r ∈ rows, r.length = sz) (hpos : 0 < sz) :
    ∃ A cap news, cv = .slice A rows.length cap ∧ Src P sz tx cv rows.length news w ∧ ∀ i c v, cellAt rows i c = some v → v.scal = true ∧ ∃ cv, news[i * sz + c]? = some cv ∧ VRel S g (stab w0 R) v cv := by
  unfold source at hs
  split at hs
  · cases hs
    have := hv.nil_inv; subst this
    obtain ⟨news, h1, h2⟩ := src_of (P := P) (w := w) (S := S) (g := g) (cell := stab w0 R) (A := none) (n := 0) (cap := 0) (rows := []) hk rfl hsz hpos (fun i c v h => by simp [cellAt] at h)
    exact ⟨none, 0, news, rfl, h1, h2⟩
  · rename_i ys
    cases hs
    have hrd := hv.rd_inv
    cases hrd with
    | rd _ _ A cap sz' cv' k1 k2 k3 k4 k5 =>
      obtain ⟨news, h1, h2⟩ := src_of (P := P) (w := w) (S := S) (g := g) (cell := stab w0 R) (A := A) (n := rows.length) (cap := cap) (rows := rows) hk rfl hsz hpos (fun i c v h => by
        obtain ⟨ad, e1, e2⟩ := k4 i c v h
        have hsc : v.scal = true := by
          unfold cellAt at h
          split at h
          · rename_i r hr; exact k3 rfl r (List.mem_of_getElem? hr) v (List.mem_of_getElem? h)
          · cases h
        have hszz : sz' = sz := by
          unfold cellAt at h
          split at h
          · rename_i r hr; rw [← k2 r (List.mem_of_getElem? hr), hsz r (List.mem_of_getElem? hr)]
          · cases h
        subst hszz
        exact ⟨hsc, ad, _, e1, stab_cell hR hW e2, (k5 i c v h).vrel⟩)
      exact ⟨A, cap, news, rfl, h1, h2⟩
  · rename_i lv s ver p off len
    split at hs
    · rename_i b ys hat
      obtain ⟨hb, hver, hnav⟩ := at_blk hat
      split at hs
      · rename_i hc
        obtain ⟨hbox, hle⟩ := hc
        split at hs
        · rename_i hfl
          cases hs
          obtain ⟨A, cap, rfl, h1, h2, h3⟩ := hv.sl_inv.2 _ _ hat
          have hflat := flat_scal hW hb hbox hfl hnav
          obtain ⟨c1, c2, c3⟩ := hW.cont lv s b p ys hb hnav
          have hlen : ((ys.drop off).take len).length = len := by simp; omega
          obtain ⟨news, k1, k2⟩ := src_of (P := P) (w := w) (S := S) (g := g) (cell := stab w0 R) (A := A) (n := len) (cap := cap) (rows := (ys.drop off).take len) hk hlen hsz hpos (fun i c v h => by
            obtain ⟨hi, hcell⟩ := cellAt_drop h
            have hne : ys ≠ [] := fun e => by subst e; simp [cellAt] at hcell
            cases hB : g.θ lv s p with
            | none => rw [hB] at c3; exact absurd c3 hne
            | some B =>
              replace h3 := h3 (.inr (by omega))
              rw [hB] at c3 h3
              obtain ⟨arr, ty, fz, a1, a2, a3, a4, a5⟩ := c3
              obtain ⟨cv, e1, e2⟩ := a5 _ _ v hcell
              have hrow : ∃ r, ys[off + i]? = some r ∧ r[c]? = some v := by
                unfold cellAt at hcell
                split at hcell
                · rename_i r hr; exact ⟨r, hr, hcell⟩
                · cases hcell
              obtain ⟨r, hr, hrc⟩ := hrow
              have hsc := hflat r (List.mem_of_getElem? hr) v (List.mem_of_getElem? hrc)
              have hcz : csz b.sz p ys = sz := by
                rw [← c1 r (List.mem_of_getElem? hr)]
                refine hsz r ?_
                have : ((ys.drop off).take len)[i]? = some r := by rw [List.getElem?_take, if_pos hi, List.getElem?_drop]; exact hr
                exact List.mem_of_getElem? this
              rw [hcz] at e1 h3
              have hA : A = some ⟨B, off * sz, none⟩ := by
                rcases h3.1 with h | h
                · omega
                · exact h
              have hkv : VRel S g (stab w0 R) v cv := by
                have : VRel S g (stab w0 R) (v.mapR (upR lv)) cv := by
                  cases v <;> first | exact e2.1 | simp [AV.scal] at hsc
                rwa [scal_mapR hsc] at this
              refine ⟨hsc, _, cv, hA, ?_, hkv⟩
              rw [show (⟨B, off * sz, none⟩ : Addr).add (i * sz + c) = ⟨B, off * sz + (i * sz + c), none⟩ from Addr.add_lit _ _ _, blk_cell' a1]
              rw [Nat.add_mul, Nat.add_assoc] at e1
              exact e1)
          refine ⟨A, cap, news, by rw [hlen], ?_, k2⟩
          rw [hlen]; exact k1
        · cases hs
      · cases hs
    · cases hs
  · cases hs
end
end Go.Ae
namespace Go.Ae
open Go.RowKit
set_option linter.unusedVariables false
set_option linter.unusedSimpArgs false
section
variable {P : Program} {w w' w0 : World} {M : Nat → Nat → Path → Option Nat} {R : Nat → Prop} {S : St} {g : G} {a : Act} {o : Oper}

theorem zeroOf_info {e : TypeId} {zero : List AV} (h : zeroOf P e = some zero) : ∃ it z, P.info? e = some it ∧ it.zero = some z ∧ z.cells.size = zero.length ∧ zero.length = it.size := by
  unfold zeroOf at h
  split at h
  · rename_i zs it hz1 hit
    split at h
    · rename_i z hzz
      split at h
      · rename_i hok
        cases h
        simp only [Bool.and_eq_true] at hok
        obtain ⟨z1, _⟩ := zeros_rel (S := default) (g := ⟨fun _ _ _ => none, fun _ => 0⟩) (cell := fun _ => none) hok.1
        exact ⟨it, z, hit, hzz, by rw [z1]; simp, by simpa using hok.2⟩
      · cases h
    · cases h
  · cases h

theorem goes_app_run {s x : Operand} {t tx : TypeId} {cv : Value} {w' : World} (ho : o.op = .call { callee := .builtin .append, args := #[s, x], argTypes := #[t, tx] })
    (h : (Builtin.append_ #[t, tx] o.type #[a.eval s, a.eval x]).run P w = .ok cv w') : (execOp a.eval o).run P w = .ok (.value cv) w' := by
  unfold execOp
  simp [ho, resolve, invoke, builtin, h]

/-- The content behind an append: rows that were there, rows that came. -/
theorem app_cell {xs ys : List (List AV)} {p : Path} {zs : List (List AV)} (hy : ∀ i c v, cellAt ys i c = some v → v.scal = true) (hp : navE (xs ++ ys) p = some zs) : (p = [] ∧ zs = xs ++ ys) ∨ (p ≠ [] ∧ navE xs p = some zs) := by
  cases p with
  | nil => simp [navE] at hp; exact .inl ⟨rfl, hp.symm⟩
  | cons q r =>
    obtain ⟨i, c⟩ := q
    right
    refine ⟨by simp, ?_⟩
    simp only [navE] at hp ⊢
    cases hc : cellAt (xs ++ ys) i c with
    | none => simp [hc] at hp
    | some v =>
      rcases cellAt_append hc with ⟨_, h⟩ | ⟨_, h⟩
      · rw [h]; rw [hc] at hp; exact hp
      · have := hy _ _ _ h
        cases v <;> first | (simp [AV.scal] at this; done) | (simp [hc] at hp)

theorem csz_eq {sz : Nat} {p : Path} {ys : List (List AV)} (h : p ≠ []) (sz' : Nat) : csz sz p ys = csz sz' p ys := by cases p <;> first | rfl | exact absurd rfl h

theorem scal_krel {cell : Addr → Option Value} {lv s : Nat} {b : Blk} {p : Path} {i c : Nat} {v : AV} {cv : Value} (hs : v.scal = true) (h : VRel S g cell v cv) : KRel cell S g lv s b p i c v cv := by
  have h' : VRel S g cell (v.mapR (upR lv)) cv := by rw [scal_mapR hs]; exact h
  cases v <;> first | exact ⟨h', fun _ => hs⟩ | simp [AV.scal] at hs

theorem app_does {O : Oracle} {md : Nat → Mode} {t tx e e' : TypeId} {x y : Operand} {xa xx : X} {it : TypeInfo} {zero : List AV} {fl : Bool} {base : Nat} {v : AV} {S' : St}
    (ho : o.op = .call { callee := .builtin .append, args := #[x, y], argTypes := #[t, tx] }) (ht : P.underlying t = some (.slice e)) (htx : P.underlying tx = some (.slice e')) (hit : P.info? e = some it) (hz : zeroOf P e = some zero) (hpos : 0 < it.size)
    (hR : RdW w0 M R) (hW : WRel w0 M R S g w) (hx : VRel S g (stab w0 R) (evalX S xa) (a.eval x)) (hy : VRel S g (stab w0 R) (evalX S xx) (a.eval y)) (h : evalW O md S base (.app fl it.size it.bytes xa xx) = some (v, S')) : Does P w0 M R S g a w o S' v := by
  obtain ⟨it', z, hit', hzz, hz1, hz2⟩ := zeroOf_info hz
  rw [hit] at hit'; cases hit'
  simp only [evalW] at h
  split at h
  · rename_i ys hs
    split at h
    · rename_i hall
      have hrows : ∀ r ∈ ys, r.length = it.size := fun r hr => by have := List.all_eq_true.1 hall r hr; simpa using this
      obtain ⟨A2, cap2, news, hcy, hsrc, hnews⟩ := source_src (P := P) htx hR hW hy hs hrows hpos
      have hnl := hsrc.newsLen
      have hys : ∀ i c v, cellAt ys i c = some v → v.scal = true := fun i c v hv => (hnews i c v hv).1
      split at h
      · -- nil
        rename_i f q hxa
        rw [hxa] at hx
        have hcx := hx.nil_inv
        split at h
        · rename_i hb
          obtain ⟨hb1, hb2⟩ := hb
          split at h
          · rename_i S1 hn
            cases h
            by_cases h0 : ys = []
            · subst h0
              have hnn : news = [] := by simpa using hnl
              subst hnn
              have hrun := run_append_nothing (P := P) w t tx o.type e it ht hit none 0 0 (Nat.le_refl _) (a.eval y) hsrc
              rw [← hcx] at hrun
              exact Goes.does ⟨_, _, _, goes_app_run ho hrun, hW.newEmpty hn rfl, Ext.empty hn, by rw [hcx]; exact vrel_newEmpty hn rfl rfl _⟩
            · have hn0 : 0 < ys.length := List.length_pos_iff.2 h0
              have hrun := run_append_grow_src (P := P) w t tx o.type e it z ht hit hzz none 0 0 [] (run_firstCells_none w.drew _ _ _ _) (a.eval y) ys.length news hsrc (by omega) (by omega) (growslice_fits (by omega) (by simpa using hb1))
              simp only [Nat.zero_add] at hrun
              rw [← hcx] at hrun
              have hge := grownCap_ge w ys.length 0 e
              obtain ⟨g', k1, k2, k3⟩ := newArr (elems := ys) (sz := it.size) (fl := fl) (s := base) (S' := S') (ty := e) (fz := (0, 0)) hW hn
                (w' := w.drew.alloc (.cells (([] ++ news).toArray ++ Builtin.zeroCells z.cells (grownCap w ys.length 0 e - ys.length)) e)) rfl rfl rfl
                (fun B hB => Below.heap_alloc w.drew _ B hB) (heap_alloc_new w.drew _) (by simp) (free_zero _) hrows hpos (by simp [size_zeroCells, hnl]) (fun i c v hv => by
                  obtain ⟨hs1, cv, c1, c2⟩ := hnews i c v hv
                  refine ⟨cv, ?_, .inl ⟨hs1, c2⟩⟩
                  have hlt := (List.getElem?_eq_some_iff.1 c1).1
                  rw [Array.getElem?_append_left (by simpa using hlt)]
                  simpa using c1)
              refine Goes.does ⟨_, _, g', goes_app_run ho hrun, k1, k2, k3 _ _ (Nat.le_refl _) hge ?_⟩
              simp only [Array.size_append, size_zeroCells, hz1, hz2, List.size_toArray, List.nil_append, hnl]
              rw [← Nat.add_mul]
              exact Nat.mul_le_mul_right _ (by omega)
          · cases h
        · cases h
      · -- a slice of one's own
        rename_i lv s ver len hxa
        rw [hxa] at hx
        split at h
        · rename_i b xs hat
          split at h
          · rename_i hc
            obtain ⟨hbox, hbfl, hbsz, rfl, hb1, hb2⟩ := hc
            cases h
            obtain ⟨hb, hver, hnav⟩ := at_blk hat
            simp only [navE, Option.some.injEq] at hnav
            subst hnav
            obtain ⟨A, cap, hcx, d1, d2, d3⟩ := hx.sl_inv.2 _ _ hat
            replace d3 := d3 (.inl rfl)
            have hcz : csz b.sz [] b.elems = b.sz := rfl
            obtain ⟨c1, c2, c3⟩ := hW.cont lv s b [] b.elems hb rfl
            rw [hcz] at c1 c2 c3
            let b2 : Blk := { b with ver := b.ver + 1, elems := b.elems ++ ys }
            have hget := blk_get hb
            have hkey : ∀ S2 : St, S2 = S.put lv s (some b2) → S2.blk lv s = some b2 := fun S2 e => by rw [e, blk_put hget]; simp
            have hl2 : ∀ r ∈ b.elems ++ ys, r.length = b.sz := fun r hr => by
              rcases List.mem_append.1 hr with hr | hr
              · exact c1 r hr
              · rw [hbsz]; exact hrows r hr
            -- the nested places stay
            have nested : ∀ {g2 : G} {w2 : World}, Ext S g (S.put lv s (some b2)) g2 → (∀ p, p ≠ [] → g2.θ lv s p = g.θ lv s p) → (∀ B, B < w.heap.size → g.θ lv s [] ≠ some B → w2.heap[B]? = w.heap[B]? ∧ g2.κ B = g.κ B) →
                ∀ p zs, p ≠ [] → navE b.elems p = some zs → Cont (stab w0 R) (S.put lv s (some b2)) g2 w2 lv s b2 p zs := fun {g2 w2} hE hθ hk p zs hp hn => by
              obtain ⟨e1, e2, e3⟩ := hW.cont lv s b p zs hb hn
              refine ⟨e1, e2, ?_⟩
              rw [hθ p hp]
              cases hB : g.θ lv s p with
              | none => rw [hB] at e3; exact e3
              | some B =>
                rw [hB] at e3
                obtain ⟨arr, ty, fz, a1, a2, a3, a4, a5⟩ := e3
                obtain ⟨k1, k2⟩ := hk B (hW.rng _ _ _ _ hB) fun hB0 => hp (hW.inj _ _ _ _ _ _ _ hB hB0).2.2
                refine ⟨arr, ty, fz, k1.trans a1, a2, a3.trans k2.symm, a4, fun i c u hu => ?_⟩
                obtain ⟨cv, q1, q2⟩ := a5 i c u hu
                refine ⟨cv, q1, ?_⟩
                have := q2.mono hE (hθ _ (by simp))
                cases u <;> exact this
            -- the row itself
            have own : ∀ {g2 : G} {w2 : World} {B : Nat} {arr2 : Array Value} {ty2 : TypeId} {fz2 : Nat × Nat}, Ext S g (S.put lv s (some b2)) g2 → (∀ p, p ≠ [] → g2.θ lv s p = g.θ lv s p) → g2.θ lv s [] = some B → w2.heap[B]? = some (.cells arr2 ty2 fz2) → FreeS b.sz fz2 arr2.size →
                arr2.size = g2.κ B → (b.elems.length + ys.length) * b.sz ≤ arr2.size → (∀ i c u, cellAt b.elems i c = some u → ∃ cv, arr2[i * b.sz + c]? = some cv ∧ KRel (stab w0 R) S g lv s b [] i c u cv) → (∀ j u, news[j]? = some u → arr2[b.elems.length * b.sz + j]? = some u) →
                Cont (stab w0 R) (S.put lv s (some b2)) g2 w2 lv s b2 [] (b.elems ++ ys) := fun {g2 w2 B arr2 ty2 fz2} hE hθ hB hh hf hκ hsz hold hnew => by
              refine ⟨hl2, fun _ => by rw [show csz b2.sz [] (b.elems ++ ys) = b.sz from rfl, hbsz]; exact hpos, ?_⟩
              rw [hB]
              refine ⟨arr2, ty2, fz2, hh, hf, hκ, by simp only [List.length_append]; exact hsz, fun i c u hu => ?_⟩
              rw [show csz b2.sz [] (b.elems ++ ys) = b.sz from rfl]
              rcases cellAt_append hu with ⟨_, h⟩ | ⟨hi, h⟩
              · obtain ⟨cv, q1, q2⟩ := hold i c u h
                refine ⟨cv, q1, ?_⟩
                have := q2.mono hE (hθ _ (by simp))
                cases u <;> exact this
              · obtain ⟨hs1, cv, q1, q2⟩ := hnews _ _ _ h
                refine ⟨cv, ?_, scal_krel hs1 (q2.mono hE)⟩
                have := hnew _ _ q1
                rw [← hbsz, ← Nat.add_assoc, ← Nat.add_mul] at this
                rwa [show b.elems.length + (i - b.elems.length) = i by omega] at this
            have hvr : ∀ {g2 : G} {A' : Option Addr} {cap' : Nat}, b.elems.length + ys.length ≤ cap' → (match g2.θ lv s [] with | some B => (cap' = 0 ∨ A' = some ⟨B, 0, none⟩) ∧ cap' * b.sz ≤ g2.κ B | none => A' = none ∧ cap' = 0) →
                VRel (S.put lv s (some b2)) g2 (stab w0 R) (.sl lv s (ver + 1) [] 0 (b.elems.length + ys.length)) (.slice A' (b.elems.length + ys.length) cap') := fun {g2 A' cap'} hle hm => by
              have hb2k := hkey _ rfl
              refine .sl _ _ _ _ _ _ _ ⟨some b2, blk_get hb2k, fun b' h => by cases h; show ver + 1 ≤ b.ver + 1; omega⟩ ⟨_, _, _, rfl⟩ fun b' zs hat' => ?_
              obtain ⟨h1, h2, h3⟩ := at_blk hat'
              rw [hb2k] at h1; cases h1
              simp only [navE, Option.some.injEq] at h3
              subst h3
              refine ⟨A', cap', rfl, hle, by show 0 + _ ≤ (b.elems ++ ys).length; simp, fun _ => ?_⟩
              cases hB : g2.θ lv s [] with
              | none => rw [hB] at hm; exact hm
              | some B =>
                rw [hB] at hm
                simp only [Nat.zero_mul, Nat.zero_add]
                exact ⟨hm.1, fun _ => hm.2⟩
            by_cases hroom : b.elems.length + ys.length ≤ cap
            · by_cases h0 : ys = []
              · subst h0
                have hnn : news = [] := by simpa using hnl
                subst hnn
                have hrun := run_append_nothing (P := P) w t tx o.type e it ht hit A b.elems.length cap d1 (a.eval y) hsrc
                rw [← hcx] at hrun
                obtain ⟨k1, k2⟩ := hW.change (w' := w) (S2 := S.put lv s (some b2)) (g2 := g) (T := fun _ => False) hb rfl (by show b.ver < b.ver + 1; omega) (fun _ _ _ _ => rfl) (fun p B h => .inl h) (fun _ _ _ => rfl) (fun _ h => h.elim) rfl rfl rfl (Nat.le_refl _) (fun _ _ _ => rfl)
                  (fun hE p zs hp => by
                    rcases app_cell hys hp with ⟨rfl, rfl⟩ | ⟨hne, hp⟩
                    · cases hB : g.θ lv s [] with
                      | none =>
                        rw [hB] at c3
                        refine ⟨hl2, fun h => absurd (by simpa using c3) h, ?_⟩
                        rw [hB]; simpa using c3
                      | some B =>
                        rw [hB] at c3
                        obtain ⟨arr, ty, fz, a1, a2, a3, a4, a5⟩ := c3
                        exact own hE (fun _ _ => rfl) hB a1 a2 a3 (by simpa using a4) a5 (fun j u hj => by simp at hj)
                    · exact nested hE (fun _ _ => rfl) (fun _ _ _ => ⟨rfl, rfl⟩) p zs hne hp)
                refine Goes.does ⟨_, _, g, goes_app_run ho hrun, k1, k2, ?_⟩
                rw [hcx]
                refine hvr (g2 := g) (A' := A) (cap' := cap) hroom ?_
                cases hB : g.θ lv s [] with
                | none => rw [hB] at d3; exact d3
                | some B =>
                  rw [hB] at d3
                  simp only [Nat.zero_mul, Nat.zero_add] at d3
                  exact ⟨d3.1, d3.2 trivial⟩
              · have hn0 : 0 < ys.length := List.length_pos_iff.2 h0
                cases hB : g.θ lv s [] with
                | none => rw [hB] at d3; omega
                | some B =>
                  rw [hB] at d3 c3
                  simp only [Nat.zero_mul, Nat.zero_add] at d3
                  obtain ⟨arr, ty, fz, a1, a2, a3, a4, a5⟩ := c3
                  have hA : A = some ⟨B, 0, none⟩ := by rcases d3.1 with h | h <;> first | omega | exact h
                  have hcapsz := d3.2 trivial
                  have hmul : (b.elems.length + ys.length) * b.sz ≤ cap * b.sz := Nat.mul_le_mul_right _ hroom
                  have hmul2 : (b.elems.length + ys.length) * b.sz = b.elems.length * b.sz + ys.length * b.sz := Nat.add_mul _ _ _
                  rw [← hbsz] at hnl
                  have hrun := run_append_room_src (P := P) w t tx o.type e it ht hit B 0 b.elems.length cap (a.eval y) ys.length news hsrc hroom (fun j hj => by
                      rw [blk_cell' a1, ← hbsz, Array.getElem?_eq_getElem (by omega)]; rfl) (fun j hj => by
                      simp only [World.frozen?, a1]; exact a2.1 _ (by rw [← hbsz]; omega))
                  rw [← hA, ← hcx, ← hbsz, Nat.zero_add] at hrun
                  obtain ⟨arr', e1, e2, e3, e4, e5, e6, e7, e8⟩ := setCells_spec B news (b.elems.length * b.sz) w arr ty fz a1 (by omega)
                  obtain ⟨k1, k2⟩ := hW.change (w' := w.setCells B (b.elems.length * b.sz) news) (S2 := S.put lv s (some b2)) (g2 := g) (T := fun B' => B' = B) hb rfl (by show b.ver < b.ver + 1; omega) (fun _ _ _ _ => rfl) (fun p B h => .inl h) (fun _ _ _ => rfl)
                    (fun B' h => ⟨[], by rw [hB, h]⟩) e6 e7 e8 (by omega) (fun B' _ h => e4 B' h)
                    (fun hE p zs hp => by
                      rcases app_cell hys hp with ⟨rfl, rfl⟩ | ⟨hne, hp⟩
                      · refine own hE (fun _ _ => rfl) hB e1 (by rw [e2]; exact a2) (by rw [e2]; exact a3) (by omega) (fun i c u hu => ?_) (fun j u hj => ?_)
                        · obtain ⟨cv, q1, q2⟩ := a5 i c u hu
                          refine ⟨cv, ?_, q2⟩
                          rw [e3, if_neg ?_]
                          · exact q1
                          · have : i < b.elems.length ∧ c < b.sz := by
                              unfold cellAt at hu
                              split at hu
                              · rename_i r hr
                                exact ⟨(List.getElem?_eq_some_iff.1 hr).1, by rw [← c1 r (List.mem_of_getElem? hr)]; exact (List.getElem?_eq_some_iff.1 hu).1⟩
                              · cases hu
                            have hm := Nat.mul_le_mul_right b.sz (show i + 1 ≤ b.elems.length by omega)
                            rw [Nat.add_mul, Nat.one_mul] at hm
                            omega
                        · have hlt := (List.getElem?_eq_some_iff.1 hj).1
                          rw [e3, if_pos (by omega), Nat.add_sub_cancel_left]; exact hj
                      · exact nested hE (fun _ _ => rfl) (fun B' _ h => ⟨e4 B' (fun he => h (by rw [he]; exact hB)), rfl⟩) p zs hne hp)
                  refine Goes.does ⟨_, _, g, goes_app_run ho hrun, k1, k2, ?_⟩
                  rw [hA]
                  refine hvr (g2 := g) hroom ?_
                  rw [hB]
                  exact ⟨.inr rfl, hcapsz⟩
            · -- a new row
              have hn0 : 0 < ys.length := by omega
              obtain ⟨olds, hold, holdl, hcells⟩ : ∃ olds : List Value, (Builtin.firstCells it.size b.elems.length (.slice A b.elems.length cap)).run P w.drew = .ok olds.toArray w.drew ∧ olds.length = b.elems.length * b.sz ∧
                  ∀ i c u, cellAt b.elems i c = some u → ∃ cv, olds[i * b.sz + c]? = some cv ∧ KRel (stab w0 R) S g lv s b [] i c u cv := by
                cases hB : g.θ lv s [] with
                | none =>
                  rw [hB] at d3 c3
                  rw [d3.1, c3]
                  exact ⟨[], run_firstCells_none w.drew _ _ _ _, by simp, fun i c u hu => by simp [cellAt] at hu⟩
                | some B =>
                  rw [hB] at d3 c3
                  simp only [Nat.zero_mul, Nat.zero_add] at d3
                  obtain ⟨arr, ty, fz, a1, a2, a3, a4, a5⟩ := c3
                  refine ⟨arr.toList.take (b.elems.length * b.sz), ?_, by simp; omega, fun i c u hu => ?_⟩
                  · cases A with
                    | none =>
                      have : cap = 0 := by rcases d3.1 with h | h <;> first | exact h | cases h
                      have hl0 : b.elems.length = 0 := by omega
                      rw [hl0]; simp [Builtin.firstCells]
                    | some ad =>
                      refine run_firstCells_some w.drew it.size b.elems.length ad b.elems.length cap _ (by simp; rw [← hbsz]; omega) fun j u hj => ?_
                      have hlt : j < b.elems.length * b.sz := by have := (List.getElem?_eq_some_iff.1 hj).1; simp at this; omega
                      have hl0 : b.elems.length ≠ 0 := fun h => by rw [h] at hlt; omega
                      have hA : ad = ⟨B, 0, none⟩ := by rcases d3.1 with h | h <;> first | omega | (cases h; rfl)
                      rw [hA, Addr.add_lit]
                      rw [List.getElem?_take, if_pos hlt, Array.getElem?_toList] at hj
                      rw [show w.drew.cell? _ = w.cell? ⟨B, 0 + j, none⟩ from rfl, blk_cell' a1, Nat.zero_add]; exact hj
                  · obtain ⟨cv, q1, q2⟩ := a5 i c u hu
                    have hic : i < b.elems.length ∧ c < b.sz := by
                      unfold cellAt at hu
                      split at hu
                      · rename_i r hr
                        exact ⟨(List.getElem?_eq_some_iff.1 hr).1, by rw [← c1 r (List.mem_of_getElem? hr)]; exact (List.getElem?_eq_some_iff.1 hu).1⟩
                      · cases hu
                    have hm := Nat.mul_le_mul_right b.sz (show i + 1 ≤ b.elems.length by omega)
                    rw [Nat.add_mul, Nat.one_mul] at hm
                    exact ⟨cv, by rw [List.getElem?_take, if_pos (by omega), Array.getElem?_toList]; exact q1, q2⟩
              have hrun := run_append_grow_src (P := P) w t tx o.type e it z ht hit hzz A b.elems.length cap olds hold (a.eval y) ys.length news hsrc (by omega) (by omega) (growslice_fits (by omega) hb1)
              rw [← hcx] at hrun
              have hge := grownCap_ge w (b.elems.length + ys.length) cap e
              generalize hgc : grownCap w (b.elems.length + ys.length) cap e = gc at hrun hge
              let arr2 : Array Value := (olds ++ news).toArray ++ Builtin.zeroCells z.cells (gc - (b.elems.length + ys.length))
              have harr2 : arr2.size = gc * b.sz := by
                simp only [arr2, Array.size_append, size_zeroCells, List.size_toArray, List.length_append, holdl, hnl, hz1, hz2, ← hbsz]
                rw [← Nat.add_mul, ← Nat.add_mul]; congr 1; omega
              let g2 : G := { θ := fun lv' s' p => if lv' = lv ∧ s' = s ∧ p = [] then some w.heap.size else g.θ lv' s' p, κ := fun B => if B = w.heap.size then arr2.size else g.κ B }
              have hθn : g2.θ lv s [] = some w.heap.size := by simp [g2]
              have hθp : ∀ p, p ≠ [] → g2.θ lv s p = g.θ lv s p := fun p hp => by simp [g2, hp]
              have hκ2 : ∀ B, B < w.heap.size → g2.κ B = g.κ B := fun B hB => by simp only [g2]; rw [if_neg (by omega)]
              have hge2 : (b.elems.length + ys.length) * b.sz ≤ gc * b.sz := Nat.mul_le_mul_right _ hge
              obtain ⟨k1, k2⟩ := hW.change (w' := w.drew.alloc (.cells arr2 e)) (S2 := S.put lv s (some b2)) (g2 := g2) (T := fun _ => False) hb rfl (by show b.ver < b.ver + 1; omega)
                (fun lv' s' p h => by simp only [g2]; rw [if_neg (fun hh => h ⟨hh.1, hh.2.1⟩)]) (fun p B h => by
                  by_cases hp : p = []
                  · subst hp; rw [hθn] at h; cases h; exact .inr ⟨rfl, rfl, by simp⟩
                  · rw [hθp p hp] at h; exact .inl h) (fun B hB _ => hκ2 B hB) (fun _ h => h.elim) rfl rfl rfl (by simp) (fun B hB _ => Below.heap_alloc w.drew _ B hB)
                (fun hE p zs hp => by
                  rcases app_cell hys hp with ⟨rfl, rfl⟩ | ⟨hne, hp⟩
                  · refine own hE hθp hθn (heap_alloc_new w.drew _) (free_zero _) (by simp [g2]) (by omega) (fun i c u hu => ?_) (fun j u hj => ?_)
                    · obtain ⟨cv, q1, q2⟩ := hcells i c u hu
                      refine ⟨cv, ?_, q2⟩
                      have hlt := (List.getElem?_eq_some_iff.1 q1).1
                      simp only [arr2]
                      rw [Array.getElem?_append_left (by simp; omega), List.getElem?_toArray, List.getElem?_append_left hlt]; exact q1
                    · have hlt := (List.getElem?_eq_some_iff.1 hj).1
                      simp only [arr2]
                      rw [Array.getElem?_append_left (by simp; omega), List.getElem?_toArray, List.getElem?_append_right (by omega), holdl, Nat.add_sub_cancel_left]; exact hj
                  · exact nested hE hθp (fun B hB _ => ⟨Below.heap_alloc w.drew _ B hB, hκ2 B hB⟩) p zs hne hp)
              refine Goes.does ⟨_, _, g2, goes_app_run ho hrun, k1, k2, ?_⟩
              refine hvr (g2 := g2) hge ?_
              rw [hθn]
              refine ⟨.inr rfl, ?_⟩
              simp only [g2, if_true, harr2]
              exact Nat.le_refl _
          · cases h
        · cases h
      · cases h
    · cases h
  · cases h
end
end Go.Ae
namespace Go.Ae
open Go.RowKit
set_option linter.unusedVariables false
set_option linter.unusedSimpArgs false
section
variable {P : Program} {w w' w0 : World} {M : Nat → Nat → Path → Option Nat} {R : Nat → Prop} {S : St} {g : G} {a : Act} {o : Oper}

/-- A slice that owns its rows; t is its block. -/
def OwnRel (t : Option Nat) (fl : Bool) (zs : List (List AV)) (cv : Value) : Prop := (fl = true → ∀ r ∈ zs, ∀ v ∈ r, v.scal = true) ∧ ∃ A cap, cv = .slice A zs.length cap ∧ zs.length ≤ cap ∧ match t with
  | some B => cap = 0 ∨ A = some ⟨B, 0, none⟩
  | none => A = none ∧ cap = 0
/-- What a cell of rows that lie loose says; t tells their blocks. -/
def KRelT (t : Path → Option Nat) (q : Path) (i c : Nat) (v : AV) (cv : Value) : Prop := match v with
  | .own fl zs => OwnRel (t (q ++ [(i, c)])) fl zs cv
  | v => v.scal = true ∧ ∀ (S : St) (g : G) (cell : Addr → Option Value), VRel S g cell v cv
def ContT (w : World) (κ : Nat → Nat) (t : Path → Option Nat) (q : Path) (ys : List (List AV)) : Prop := ∃ sz, (∀ r ∈ ys, r.length = sz) ∧ (ys ≠ [] → 0 < sz) ∧ match t q with
  | none => ys = []
  | some B => ∃ arr ty fz, w.heap[B]? = some (.cells arr ty fz) ∧ FreeS sz fz arr.size ∧ arr.size = κ B ∧ ys.length * sz ≤ arr.size ∧ ∀ i c v, cellAt ys i c = some v → ∃ cv, arr[i * sz + c]? = some cv ∧ KRelT t q i c v cv
/-- A cell as it is taken into a row. -/
def CellN (w : World) (κ : Nat → Nat) (t : Path → Option Nat) (v : AV) (cv : Value) : Prop := match v with
  | .own fl zs => OwnRel (t []) fl zs cv ∧ ∀ q ys, navE zs q = some ys → ContT w κ t q ys
  | v => v.scal = true ∧ ∀ (S : St) (g : G) (cell : Addr → Option Value), VRel S g cell v cv

theorem scal_any {cell : Addr → Option Value} {v : AV} {cv : Value} (hs : v.scal = true) (h : VRel S g cell v cv) (S' : St) (g' : G) (cell' : Addr → Option Value) : VRel S' g' cell' v cv := by
  cases v <;> simp [AV.scal] at hs
  · rw [h.int_inv]; exact .int _ _
  · rw [h.bool_inv]; exact .bool _
  · rw [h.str_inv]; exact .str _
theorem krel_own {cell : Addr → Option Value} {lv s : Nat} {b : Blk} {p : Path} {i c : Nat} {fl : Bool} {zs : List (List AV)} {cv : Value} : KRel cell S g lv s b p i c (.own fl zs) cv ↔ b.box = false ∧ b.fl = false ∧ OwnRel (g.θ lv s (p ++ [(i, c)])) fl zs cv := Iff.rfl
theorem krel_T {cell : Addr → Option Value} {lv s : Nat} {b : Blk} {p : Path} {i c : Nat} {v : AV} {cv : Value} (hbox : b.box = false) (h : KRel cell S g lv s b p i c v cv) : KRelT (g.θ lv s) p i c v cv := by
  cases v with
  | own fl zs => exact (krel_own.1 h).2.2
  | _ =>
    have hs := h.2 hbox
    have h1 := h.1
    rw [scal_mapR hs] at h1
    exact ⟨hs, scal_any hs h1⟩
theorem loose_cont {lv s : Nat} {b : Blk} {p : Path} {ys : List (List AV)} (hW : WRel w0 M R S g w) (hb : S.blk lv s = some b) (hbox : b.box = false) (hn : navE b.elems p = some ys) : ContT w g.κ (g.θ lv s) p ys := by
  obtain ⟨d1, d2, d3⟩ := hW.cont lv s b p ys hb hn
  refine ⟨csz b.sz p ys, d1, d2, ?_⟩
  cases hB : g.θ lv s p with
  | none => rw [hB] at d3; exact d3
  | some B =>
    rw [hB] at d3
    obtain ⟨arr, ty, fz, a1, a2, a3, a4, a5⟩ := d3
    refine ⟨arr, ty, fz, a1, a2, a3, a4, fun i c v hv => ?_⟩
    obtain ⟨cv, c1, c2⟩ := a5 i c v hv
    exact ⟨cv, c1, krel_T hbox c2⟩

def G.drop (g : G) (s : Nat) : G := ⟨fun lv s' p => if lv = 0 ∧ s' = s then none else g.θ lv s' p, g.κ⟩
theorem drop_θ (g : G) (s lv s' : Nat) (p : Path) : (g.drop s).θ lv s' p = if lv = 0 ∧ s' = s then none else g.θ lv s' p := rfl
theorem drop_sub {g : G} {s lv s' : Nat} {p : Path} {B : Nat} (h : (g.drop s).θ lv s' p = some B) : ¬ (lv = 0 ∧ s' = s) ∧ g.θ lv s' p = some B := by
  rw [drop_θ] at h
  split at h
  · cases h
  · rename_i hc; exact ⟨hc, h⟩
/-- A place is emptied. -/
theorem WRel.drop0 {s : Nat} {b : Blk} (hW : WRel w0 M R S g w) (hb : S.blk 0 s = some b) : WRel w0 M R (S.put 0 s none) (g.drop s) w ∧ Ext S g (S.put 0 s none) (g.drop s) := by
  have hget := blk_get hb
  have hE : Ext S g (S.put 0 s none) (g.drop s) := by
    refine ExtS.ext ?_
    intro lv' s' ob hob
    by_cases hc : lv' = 0 ∧ s' = s
    · obtain ⟨rfl, rfl⟩ := hc
      exact ⟨none, by rw [get_put hget]; simp, fun b' hb' => by cases hb'⟩
    · refine ⟨ob, by rw [get_put hget, if_neg hc]; exact hob, fun b' hb' => ⟨b', hb', Nat.le_refl _, fun _ => ⟨rfl, fun p ys hp => ⟨ys, hp, Nat.le_refl _, rfl, ?_, fun _ _ => rfl⟩⟩⟩⟩
      rw [drop_θ, if_neg hc]
  refine ⟨?_, hE⟩
  refine { os := hW.os, tape := hW.tape, output := hW.output, size := hW.size, keep := hW.keep, rng := fun lv s' p B h => hW.rng _ _ _ _ (drop_sub h).2, fresh := fun s' p B h => hW.fresh _ _ _ (drop_sub h).2,
           ext := fun lv s' p B h => hW.ext _ _ _ _ (drop_sub h).2, inj := fun lv s1 p lv' s2 q B h h' => hW.inj _ _ _ _ _ _ B (drop_sub h).2 (drop_sub h').2, cont := fun lv s' b' p ys hb' hp => ?_ }
  rw [blk_put hget] at hb'
  by_cases hc : lv = 0 ∧ s' = s
  · rw [if_pos hc] at hb'; cases hb'
  · rw [if_neg hc] at hb'
    exact (hW.cont lv s' b' p ys hb' hp).mono hE (fun q => by rw [drop_θ, if_neg hc]) fun B' hB' => ⟨rfl, rfl⟩

/-- What is moved: it lies loose, and nothing else knows of it. -/
structure Moved (w0 : World) (M : Nat → Nat → Path → Option Nat) (R : Nat → Prop) (S : St) (g : G) (w : World) (lv s : Nat) (S1 : St) (g1 : G) : Prop where
  wrel : WRel w0 M R S1 g1 w
  ext : Ext S g S1 g1
  κ : g1.κ = g.κ
  tmps : S1.tmps = S.tmps
  get : (S1.heap lv).get s = (S.heap lv).get s
  here : ∀ p, g1.θ lv s p = g.θ lv s p
  sub : ∀ lv' s' p B, g1.θ lv' s' p = some B → g.θ lv' s' p = some B
theorem Moved.refl {lv s : Nat} (hW : WRel w0 M R S g w) : Moved w0 M R S g w lv s S g := ⟨hW, .refl _ _, rfl, rfl, rfl, fun _ => rfl, fun _ _ _ _ h => h⟩

theorem moveCell_rel {lv s : Nat} {v v' : AV} {cv : Value} {S1 : St} (h : moveCell S lv s v = some (v', S1)) (hW : WRel w0 M R S g w) (hv : VRel S g (stab w0 R) v cv) :
    ∃ g1 t, Moved w0 M R S g w lv s S1 g1 ∧ CellN w g.κ t v' cv ∧ (∀ q B, t q = some B → (∃ s', g.θ 0 s' q = some B) ∧ ∀ lv' s' p, g1.θ lv' s' p ≠ some B) ∧ ∀ q q' B, t q = some B → t q' = some B → q = q' := by
  have plain : v.scal = true → v' = v → S1 = S → ∃ g1 t, Moved w0 M R S g w lv s S1 g1 ∧ CellN w g.κ t v' cv ∧ (∀ q B, t q = some B → (∃ s', g.θ 0 s' q = some B) ∧ ∀ lv' s' p, g1.θ lv' s' p ≠ some B) ∧ ∀ q q' B, t q = some B → t q' = some B → q = q' := fun hs e1 e2 => by
    subst e1; subst e2
    refine ⟨g, fun _ => none, .refl hW, ?_, fun q B h => (by cases h), fun q q' B h => by cases h⟩
    have := scal_any hs hv
    cases v' <;> first | exact ⟨hs, this⟩ | simp [AV.scal] at hs
  unfold moveCell at h
  split at h
  · rename_i t ver len
    split at h
    · cases h
    · rename_i hne
      split at h
      · rename_i b ys hat
        split at h
        · rename_i hc
          cases h
          obtain ⟨hb, hver, hnav⟩ := at_blk hat
          simp only [navE, Option.some.injEq] at hnav
          subst hnav
          obtain ⟨h1, h2⟩ := hW.drop0 hb
          have hget := blk_get hb
          refine ⟨g.drop t, g.θ 0 t, ⟨h1, h2, rfl, put_tmps _ _ _ _, by rw [get_put hget, if_neg fun h => hne ⟨h.1, h.2.symm⟩], fun p => by rw [drop_θ, if_neg fun h => hne ⟨h.1, h.2.symm⟩], fun _ _ _ _ h => (drop_sub h).2⟩, ⟨⟨fun hf => ?_, ?_⟩, fun q ys hq => loose_cont hW hb hc.1 hq⟩, fun q B hB => ⟨⟨t, hB⟩, fun lv' s' p h => ?_⟩, fun q q' B h h' => (hW.inj _ _ _ _ _ _ B h h').2.2⟩
          · exact flat_scal hW hb hc.1 hf (show navE b.elems [] = some b.elems from rfl)
          · obtain ⟨A, cap, rfl, k1, k2, k3⟩ := hv.sl_inv.2 _ _ hat
            replace k3 := k3 (.inl rfl)
            refine ⟨A, cap, by rw [hc.2], by rw [← hc.2]; exact k1, ?_⟩
            cases hB : g.θ 0 t [] with
            | none => rw [hB] at k3; exact k3
            | some B => rw [hB] at k3; simpa using k3.1
          · obtain ⟨q1, q2⟩ := drop_sub h
            obtain ⟨e1, e2, _⟩ := hW.inj _ _ _ _ _ _ B q2 hB
            exact q1 ⟨e1, e2⟩
        · cases h
      · cases h
  · cases h
    rw [hv.nil_inv]
    refine ⟨g, fun _ => none, .refl hW, ⟨⟨fun _ r hr => by simp at hr, none, 0, rfl, Nat.le_refl _, rfl, rfl⟩, fun q ys hq => ?_⟩, fun q B h => (by cases h), fun q q' B h => by cases h⟩
    have hys : ys = [] := by
      cases q with
      | nil => simpa [navE] using hq.symm
      | cons x r => obtain ⟨i, c⟩ := x; simp [navE, cellAt] at hq
    subst hys
    exact ⟨0, fun r hr => by simp at hr, fun h => absurd rfl h, rfl⟩
  · split at h
    · rename_i hs; cases h; exact plain hs rfl rfl
    · cases h

theorem moveCells_rel {lv s : Nat} : ∀ {ws cs : List AV} {S S1 : St} {g : G} {us : Nat → Value}, moveCells S lv s ws = some (cs, S1) → WRel w0 M R S g w → (∀ i v, ws[i]? = some v → VRel S g (stab w0 R) v (us i)) →
    ∃ (g1 : G) (T : Nat → Path → Option Nat), Moved w0 M R S g w lv s S1 g1 ∧ cs.length = ws.length ∧ (∀ (j : Nat) v, cs[j]? = some v → CellN w g.κ (T j) v (us j)) ∧ (∀ (j : Nat) q B, T j q = some B → (∃ s', g.θ 0 s' q = some B) ∧ ∀ lv' s' p, g1.θ lv' s' p ≠ some B) ∧
      ∀ (j : Nat) q j' q' B, T j q = some B → T j' q' = some B → j = j' ∧ q = q'
  | [], cs, S, S1, g, us, h, hW, hv => by
    simp [moveCells] at h
    obtain ⟨rfl, rfl⟩ := h
    exact ⟨g, fun _ _ => none, .refl hW, rfl, fun j v h => by simp at h, fun j q B h => (by cases h), fun j q j' q' B h => by cases h⟩
  | v :: r, cs, S, S1, g, us, h, hW, hv => by
    simp only [moveCells] at h
    split at h
    · rename_i v' Sa ha
      split at h
      · rename_i r' S2 hr
        cases h
        obtain ⟨ga, t, a1, a2, a3, a4⟩ := moveCell_rel ha hW (hv 0 v rfl)
        obtain ⟨g1, T', b1, b2, b3, b4, b5⟩ := moveCells_rel (us := fun i => us (i + 1)) hr a1.wrel fun i u hu => (hv (i + 1) u (by simpa using hu)).mono a1.ext
        refine ⟨g1, fun j => match j with | 0 => t | j + 1 => T' j, ⟨b1.wrel, a1.ext.trans b1.ext, b1.κ.trans a1.κ, b1.tmps.trans a1.tmps, b1.get.trans a1.get, fun p => (b1.here p).trans (a1.here p), fun _ _ _ _ h => a1.sub _ _ _ _ (b1.sub _ _ _ _ h)⟩, by simp [b2], fun j u hu => ?_, fun j q B hB => ?_, fun j q j' q' B h h' => ?_⟩
        · cases j with
          | zero => simp at hu; subst hu; exact a2
          | succ j => rw [← a1.κ]; exact b3 j u (by simpa using hu)
        · cases j with
          | zero =>
            obtain ⟨k1, k2⟩ := a3 q B hB
            exact ⟨k1, fun lv' s' p h => k2 _ _ _ (b1.sub _ _ _ _ h)⟩
          | succ j =>
            obtain ⟨⟨s', k1⟩, k2⟩ := b4 j q B hB
            exact ⟨⟨s', a1.sub _ _ _ _ k1⟩, k2⟩
        · cases j with
          | zero =>
            cases j' with
            | zero => exact ⟨rfl, a4 _ _ _ h h'⟩
            | succ j' => obtain ⟨⟨s', k1⟩, _⟩ := b4 j' q' B h'; exact absurd k1 ((a3 q B h).2 _ _ _)
          | succ j =>
            cases j' with
            | zero => obtain ⟨⟨s', k1⟩, _⟩ := b4 j q B h; exact absurd k1 ((a3 q' B h').2 _ _ _)
            | succ j' => obtain ⟨e1, e2⟩ := b5 j q j' q' B h h'; exact ⟨by rw [e1], e2⟩
      · cases h
    · cases h

theorem ContT.cont {cell : Addr → Option Value} {κ : Nat → Nat} {t : Path → Option Nat} {q : Path} {ys : List (List AV)} {S2 : St} {g2 : G} {lv s : Nat} {b2 : Blk} {x : Nat × Nat} (h : ContT w κ t q ys) (hθ : ∀ q', g2.θ lv s (x :: q') = t q')
    (hw : ∀ B, t q = some B → w'.heap[B]? = w.heap[B]? ∧ g2.κ B = κ B) (hbox : b2.box = false) (hfl : b2.fl = false) : Cont cell S2 g2 w' lv s b2 (x :: q) ys := by
  obtain ⟨sz, h1, h2, h3⟩ := h
  have hcz : ys ≠ [] → csz b2.sz (x :: q) ys = sz := fun hne => rowSz_of h1 hne
  refine ⟨fun r hr => ?_, fun hne => by rw [hcz hne]; exact h2 hne, ?_⟩
  · rw [hcz (fun e => by rw [e] at hr; simp at hr)]; exact h1 r hr
  · rw [hθ]
    cases hB : t q with
    | none => rw [hB] at h3; exact h3
    | some B =>
      rw [hB] at h3
      obtain ⟨arr, ty, fz, a1, a2, a3, a4, a5⟩ := h3
      obtain ⟨e1, e2⟩ := hw B hB
      refine ⟨arr, ty, fz, e1.trans a1, ?_, a3.trans e2.symm, ?_, fun i c v hv => ?_⟩
      · by_cases hne : ys = []
        · subst hne; exact ⟨a2.1, .inr (Nat.zero_le _)⟩
        · rw [hcz hne]; exact a2
      · by_cases hne : ys = []
        · subst hne; simp
        · rw [hcz hne]; exact a4
      · have hne : ys ≠ [] := fun e => by rw [e] at hv; simp [cellAt] at hv
        rw [hcz hne]
        obtain ⟨cv, c1, c2⟩ := a5 i c v hv
        refine ⟨cv, c1, ?_⟩
        cases v with
        | own fl zs => exact krel_own.2 ⟨hbox, hfl, by rw [show (x :: q) ++ [(i, c)] = x :: (q ++ [(i, c)]) from rfl, hθ]; exact c2⟩
        | _ =>
          refine ⟨?_, fun _ => c2.1⟩
          rw [scal_mapR c2.1]
          exact c2.2 _ _ _

/-- A place's rows are told anew: some cells are new, with what they own. -/
theorem WRel.refill {lv s : Nat} {b b2 : Blk} {S2 : St} {i0 c0 n : Nat} {cs : List AV} {T : Nat → Path → Option Nat} {us : Nat → Value} {B2 : Nat} {arr2 : Array Value} {ty2 : TypeId} {fz2 : Nat × Nat}
    (hW : WRel w0 M R S g w) (hb : S.blk lv s = some b) (hbox : b.box = false) (hfl : b.fl = false)
    (hS2 : S2 = S.put lv s (some b2)) (q1 : b2.sz = b.sz) (q2 : b2.box = b.box) (q3 : b2.fl = b.fl) (hver : b.ver < b2.ver ∨ (b2.ver = b.ver ∧ b2.elems.length = b.elems.length ∧ g.θ lv s [] = some B2 ∧ arr2.size = g.κ B2 ∧ ∀ (j : Nat) v, cs[j]? = some v → v.scal = true ∨ ∃ f zs, v = .own true zs ∧ cellAt b.elems i0 (c0 + j) = some (.own f [])))
    (hcell : ∀ i c v, cellAt b2.elems i c = some v → (i = i0 ∧ c0 ≤ c ∧ c < c0 + n ∧ cs[c - c0]? = some v) ∨ (¬ (i = i0 ∧ c0 ≤ c ∧ c < c0 + n) ∧ cellAt b.elems i c = some v))
    (hrows : ∀ r ∈ b2.elems, r.length = b.sz) (hpos : 0 < b.sz)
    (hN : ∀ (j : Nat) v, cs[j]? = some v → CellN w g.κ (T j) v (us j))
    (hT1 : ∀ (j : Nat) q B, T j q = some B → w0.heap.size ≤ B ∧ B < w.heap.size ∧ ∀ lv' s' p, g.θ lv' s' p ≠ some B)
    (hT2 : ∀ (j : Nat) q j' q' B, T j q = some B → T j' q' = some B → j = j' ∧ q = q')
    (hB2 : g.θ lv s [] = some B2 ∨ B2 = w.heap.size) (hlt2 : B2 < w'.heap.size)
    (hos : w'.os = w.os) (htape : w'.tape = w.tape) (hout : w'.output = w.output) (hsz : w.heap.size ≤ w'.heap.size) (hk : ∀ B, B < w.heap.size → B ≠ B2 → w'.heap[B]? = w.heap[B]?)
    (harr : w'.heap[B2]? = some (.cells arr2 ty2 fz2)) (hfree : FreeS b.sz fz2 arr2.size) (hfit : b2.elems.length * b.sz ≤ arr2.size)
    (hold : ∀ i c v, ¬ (i = i0 ∧ c0 ≤ c ∧ c < c0 + n) → cellAt b.elems i c = some v → cellAt b2.elems i c = some v → ∃ cv, arr2[i * b.sz + c]? = some cv ∧ KRel (stab w0 R) S g lv s b [] i c v cv)
    (hnew : ∀ (j : Nat) v, cs[j]? = some v → arr2[i0 * b.sz + (c0 + j)]? = some (us j)) :
    ∃ g2, WRel w0 M R S2 g2 w' ∧ Ext S g S2 g2 ∧ g2.θ lv s [] = some B2 ∧ g2.κ B2 = arr2.size := by
  have hget := blk_get hb
  let nw : Nat → Nat → Bool := fun i c => decide (i = i0 ∧ c0 ≤ c ∧ c < c0 + n)
  let g2 : G := { θ := fun lv' s' p => if lv' = lv ∧ s' = s then (match p with | [] => some B2 | (i, c) :: q => if nw i c = true then T (c - c0) q else g.θ lv s ((i, c) :: q)) else g.θ lv' s' p, κ := fun B => if B = B2 then arr2.size else g.κ B }
  have hθo : ∀ lv' s' p, ¬ (lv' = lv ∧ s' = s) → g2.θ lv' s' p = g.θ lv' s' p := fun lv' s' p h => by simp only [g2]; rw [if_neg h]
  have hθn : g2.θ lv s [] = some B2 := by simp [g2]
  have hθ1 : ∀ i c q, g2.θ lv s ((i, c) :: q) = if nw i c = true then T (c - c0) q else g.θ lv s ((i, c) :: q) := fun i c q => by simp only [g2]; rw [if_pos ⟨trivial, trivial⟩]
  have hcase : ∀ lv' s' p B, g2.θ lv' s' p = some B → (g.θ lv' s' p = some B ∧ ¬ (lv' = lv ∧ s' = s ∧ p = [])) ∨ (lv' = lv ∧ s' = s ∧ p = [] ∧ B = B2) ∨ (lv' = lv ∧ s' = s ∧ ∃ c q, p = (i0, c) :: q ∧ c0 ≤ c ∧ T (c - c0) q = some B) := fun lv' s' p B h => by
    by_cases hc : lv' = lv ∧ s' = s
    · obtain ⟨rfl, rfl⟩ := hc
      cases p with
      | nil => rw [hθn] at h; cases h; exact .inr (.inl ⟨rfl, rfl, rfl, rfl⟩)
      | cons x q =>
        obtain ⟨i, c⟩ := x
        rw [hθ1] at h
        split at h
        · rename_i hnw
          simp only [nw, decide_eq_true_eq] at hnw
          exact .inr (.inr ⟨rfl, rfl, c, q, by rw [hnw.1], hnw.2.1, h⟩)
        · exact .inl ⟨h, by simp⟩
    · rw [hθo _ _ _ hc] at h
      exact .inl ⟨h, fun hh => hc ⟨hh.1, hh.2.1⟩⟩
  have hB2o : ∀ lv' s' p, g.θ lv' s' p = some B2 → lv' = lv ∧ s' = s ∧ p = [] := fun lv' s' p h => by
    rcases hB2 with h2 | h2
    · exact hW.inj _ _ _ _ _ _ _ h h2
    · have := hW.rng _ _ _ _ h; omega
  have hB2T : ∀ (j : Nat) q, T j q ≠ some B2 := fun j q h => by
    obtain ⟨_, h1, h2⟩ := hT1 _ _ _ h
    rcases hB2 with h3 | h3
    · exact h2 _ _ _ h3
    · omega
  have hκ : ∀ B, B ≠ B2 → g2.κ B = g.κ B := fun B h => by simp only [g2]; rw [if_neg h]
  have hE : Ext S g S2 g2 := by
    intro lv' s' ob hob
    rw [hS2]
    by_cases hc : lv' = lv ∧ s' = s
    · obtain ⟨rfl, rfl⟩ := hc
      rw [hget] at hob; cases hob
      refine ⟨some b2, by rw [get_put hget]; simp, fun b' hb' => ?_⟩
      cases hb'
      rcases hver with hver | ⟨v1, v2, v3, v4, v5⟩
      · exact ⟨b, rfl, Nat.le_of_lt hver, fun hv => by omega⟩
      · refine ⟨b, rfl, by omega, fun _ => ⟨q1, fun p ys' hp => ?_⟩⟩
        cases p with
        | nil =>
          simp only [navE, Option.some.injEq] at hp
          subst hp
          refine ⟨b.elems, rfl, by omega, .inl ⟨q1, by rw [hθn, v3], fun B hB => ?_⟩⟩
          rw [v3] at hB; cases hB
          simp [g2, v4]
        | cons x q =>
          obtain ⟨i, c⟩ := x
          simp only [navE] at hp
          cases hu : cellAt b2.elems i c with
          | none => simp [hu] at hp
          | some u =>
            cases u with
            | own f zs =>
              simp only [hu] at hp
              rcases hcell i c _ hu with ⟨h1, h2, h3, h4⟩ | ⟨h1, h2⟩
              · subst h1
                have hN4 := hN _ _ h4
                rcases v5 _ _ h4 with h5 | ⟨f', zs', h5, h6⟩
                · simp [AV.scal] at h5
                · rw [show c0 + (c - c0) = c by omega] at h6
                  simp only [AV.own.injEq] at h5
                  obtain ⟨rfl, rfl⟩ := h5
                  have hsc : ∀ r ∈ zs, ∀ v ∈ r, v.scal = true := hN4.1.1 rfl
                  cases q with
                  | nil =>
                    exact ⟨[], by simp only [navE, h6], Nat.zero_le _, .inr ⟨by simp, rfl⟩⟩
                  | cons y q' =>
                    obtain ⟨i', c'⟩ := y
                    simp only [navE] at hp
                    cases hu' : cellAt zs i' c' with
                    | none => simp [hu'] at hp
                    | some u' =>
                      cases u' with
                      | own f'' zs'' =>
                        exfalso
                        unfold cellAt at hu'
                        split at hu'
                        · rename_i r hr
                          have := hsc r (List.mem_of_getElem? hr) _ (List.mem_of_getElem? hu')
                          simp [AV.scal] at this
                        · cases hu'
                      | _ => simp [hu'] at hp
              · refine ⟨ys', by simp only [navE, h2]; exact hp, Nat.le_refl _, .inl ⟨rfl, ?_, fun B hB => hκ B fun e => ?_⟩⟩
                · rw [hθ1, if_neg (by simp only [nw, decide_eq_true_eq]; exact h1)]
                · subst e; have := (hB2o _ _ _ hB).2.2; simp at this
            | _ => simp [hu] at hp
    · refine ⟨ob, by rw [get_put hget, if_neg hc]; exact hob, fun b' hb' => ⟨b', hb', Nat.le_refl _, fun _ => ⟨rfl, fun p ys hp => ⟨ys, hp, Nat.le_refl _, .inl ⟨rfl, hθo _ _ _ hc, fun B' hB' => ?_⟩⟩⟩⟩⟩
      exact hκ B' fun e => hc (by subst e; have := hB2o _ _ _ hB'; exact ⟨this.1, this.2.1⟩)
  refine ⟨g2, ?_, hE, hθn, by simp [g2]⟩
  refine { os := hos.trans hW.os, tape := htape.trans hW.tape, output := hout.trans hW.output, size := Nat.le_trans hW.size hsz, keep := fun B' hB' hM => ?_, rng := fun lv' s' p B' h => ?_,
           fresh := fun s' p B' h => ?_, ext := fun lv' s' p B' h => ?_, inj := fun lv1 s1 p1 lv2 s2 p2 B' h h' => ?_, cont := fun lv' s' b' p ys hb' hp => ?_ }
  · have hlt : B' < w.heap.size := Nat.lt_of_lt_of_le hB' hW.size
    have hne : B' ≠ B2 := fun e => by
      subst e
      rcases hB2 with h2 | h2
      · cases lv with
        | zero => have := hW.fresh s [] B' h2; omega
        | succ m => rcases hW.ext m s [] B' h2 with h | h
                    · exact hM _ _ _ h
                    · omega
      · omega
    exact (hk B' hlt hne).trans (hW.keep B' hB' hM)
  · rcases hcase _ _ _ _ h with ⟨h, _⟩ | ⟨_, _, _, rfl⟩ | ⟨_, _, c, q, _, _, h⟩
    · exact Nat.lt_of_lt_of_le (hW.rng _ _ _ _ h) hsz
    · exact hlt2
    · exact Nat.lt_of_lt_of_le (hT1 _ _ _ h).2.1 hsz
  · rcases hcase _ _ _ _ h with ⟨h, _⟩ | ⟨rfl, rfl, _, rfl⟩ | ⟨_, _, c, q, _, _, h⟩
    · exact hW.fresh _ _ _ h
    · rcases hB2 with h2 | h2
      · exact hW.fresh _ _ _ h2
      · rw [h2]; exact hW.size
    · exact (hT1 _ _ _ h).1
  · rcases hcase _ _ _ _ h with ⟨h, _⟩ | ⟨rfl, rfl, rfl, rfl⟩ | ⟨_, _, c, q, _, _, h⟩
    · exact hW.ext _ _ _ _ h
    · rcases hB2 with h2 | h2
      · exact hW.ext _ _ _ _ h2
      · exact .inr (by rw [h2]; exact hW.size)
    · exact .inr (hT1 _ _ _ h).1
  · rcases hcase _ _ _ _ h with ⟨k, n1⟩ | ⟨rfl, rfl, rfl, e0⟩ | ⟨rfl, rfl, c, q, rfl, hc, k⟩
    · rcases hcase _ _ _ _ h' with ⟨k', n2⟩ | ⟨rfl, rfl, rfl, e⟩ | ⟨rfl, rfl, c', q', rfl, hc', k'⟩
      · exact hW.inj _ _ _ _ _ _ _ k k'
      · rw [e] at k; exact absurd (hB2o _ _ _ k) n1
      · exact absurd k ((hT1 _ _ _ k').2.2 _ _ _)
    · rcases hcase _ _ _ _ h' with ⟨k', n2⟩ | ⟨rfl, rfl, rfl, e⟩ | ⟨rfl, rfl, c', q', rfl, hc', k'⟩
      · rw [e0] at k'; exact absurd (hB2o _ _ _ k') n2
      · exact ⟨rfl, rfl, rfl⟩
      · rw [e0] at k'; exact absurd k' (hB2T _ _)
    · rcases hcase _ _ _ _ h' with ⟨k', n2⟩ | ⟨rfl, rfl, rfl, e⟩ | ⟨rfl, rfl, c', q', rfl, hc', k'⟩
      · exact absurd k' ((hT1 _ _ _ k).2.2 _ _ _)
      · rw [e] at k; exact absurd k (hB2T _ _)
      · obtain ⟨e1, e2⟩ := hT2 _ _ _ _ _ k k'
        refine ⟨rfl, rfl, ?_⟩
        rw [e2, show c = c' by omega]
  · rw [hS2, blk_put hget] at hb'
    by_cases hc : lv' = lv ∧ s' = s
    · rw [if_pos hc] at hb'; cases hb'
      obtain ⟨rfl, rfl⟩ := hc
      have hcz : csz b2.sz [] b2.elems = b.sz := q1
      cases p with
      | nil =>
        simp only [navE, Option.some.injEq] at hp
        subst hp
        refine ⟨by rw [hcz]; exact hrows, fun _ => by rw [hcz]; exact hpos, ?_⟩
        rw [hθn]
        refine ⟨arr2, ty2, fz2, harr, by rw [hcz]; exact hfree, by simp [g2], by rw [hcz]; exact hfit, fun i c v hv => ?_⟩
        rw [hcz]
        rcases hcell i c v hv with ⟨rfl, h1, h2, h3⟩ | ⟨hnot, ho⟩
        · refine ⟨us (c - c0), by have := hnew _ _ h3; rwa [show c0 + (c - c0) = c by omega] at this, ?_⟩
          have hn := hN _ _ h3
          cases v with
          | own fl zs =>
            refine krel_own.2 ⟨by rw [q2]; exact hbox, by rw [q3]; exact hfl, ?_⟩
            rw [List.nil_append, hθ1, if_pos (by simp only [nw, decide_eq_true_eq]; exact ⟨trivial, h1, h2⟩)]
            exact hn.1
          | _ => exact ⟨by rw [scal_mapR hn.1]; exact hn.2 _ _ _, fun _ => hn.1⟩
        · obtain ⟨cv, k1, k2⟩ := hold i c v hnot ho hv
          refine ⟨cv, k1, ?_⟩
          cases v with
          | own fl zs =>
            obtain ⟨m1, m2, m3⟩ := krel_own.1 k2
            refine krel_own.2 ⟨by rw [q2]; exact m1, by rw [q3]; exact m2, ?_⟩
            rw [List.nil_append, hθ1, if_neg (by simp only [nw, decide_eq_true_eq]; exact hnot)]
            exact m3
          | _ => exact ⟨k2.1.mono hE, fun h => k2.2 (by rw [← q2]; exact h)⟩
      | cons x q =>
        obtain ⟨i, c⟩ := x
        simp only [navE] at hp
        cases hu : cellAt b2.elems i c with
        | none => simp [hu] at hp
        | some v =>
          cases v with
          | own fl zs =>
            simp only [hu] at hp
            rcases hcell i c _ hu with ⟨rfl, h1, h2, h3⟩ | ⟨hnot, ho⟩
            · have hn := (hN _ _ h3).2 q ys hp
              have hnw : nw i c = true := by simp only [nw, decide_eq_true_eq]; exact ⟨trivial, h1, h2⟩
              refine hn.cont (fun q' => by rw [hθ1, if_pos hnw]) (fun B hB => ?_) (by rw [q2]; exact hbox) (by rw [q3]; exact hfl)
              obtain ⟨_, h4, _⟩ := hT1 _ _ _ hB
              have hne : B ≠ B2 := fun e => hB2T _ _ (by rw [← e]; exact hB)
              exact ⟨hk B h4 hne, hκ B hne⟩
            · have hnw : ¬ nw i c = true := by simp only [nw, decide_eq_true_eq]; exact hnot
              have hnav0 : navE b.elems ((i, c) :: q) = some ys := by simp only [navE, ho]; exact hp
              have hcont := loose_cont hW hb hbox hnav0
              have := ContT.cont (x := (i, c)) (q := q) (t := fun q => g.θ lv' s' ((i, c) :: q)) (κ := g.κ) (w := w) (w' := w') (g2 := g2) (lv := lv') (s := s') (b2 := b2) (S2 := S2) (cell := stab w0 R) (ys := ys) (by
                obtain ⟨sz, c1, c2, c3⟩ := hcont
                exact ⟨sz, c1, c2, c3⟩) (fun q' => by rw [hθ1, if_neg hnw]) (fun B hB => by
                have hne : B ≠ B2 := fun e => by subst e; have := (hB2o _ _ _ hB).2.2; cases this
                exact ⟨hk B (hW.rng _ _ _ _ hB) hne, hκ B hne⟩) (by rw [q2]; exact hbox) (by rw [q3]; exact hfl)
              exact this
          | _ => simp [hu] at hp
    · rw [if_neg hc] at hb'
      refine (hW.cont lv' s' b' p ys hb' hp).mono hE (fun q => hθo _ _ q hc) fun B' hB' => ?_
      have hne : B' ≠ B2 := fun e => by subst e; have := hB2o _ _ _ hB'; exact hc ⟨this.1, this.2.1⟩
      exact ⟨hk B' (hW.rng _ _ _ _ hB') hne, hκ B' hne⟩
end
end Go.Ae
namespace Go.Ae
open Go.RowKit
set_option linter.unusedVariables false
set_option linter.unusedSimpArgs false
section
variable {P : Program} {w w' w0 : World} {M : Nat → Nat → Path → Option Nat} {R : Nat → Prop} {S : St} {g : G} {a : Act} {o : Oper}

theorem set_row_cells {xs : List (List AV)} {i c n : Nat} {row cs : List AV} (hrow : xs[i]? = some row) (hcn : c + n ≤ row.length) (hcs : cs.length = n) {i' c' : Nat} {v : AV} (hv : cellAt (xs.set i (row.take c ++ cs ++ row.drop (c + n))) i' c' = some v) :
    (i' = i ∧ c ≤ c' ∧ c' < c + n ∧ cs[c' - c]? = some v) ∨ (¬ (i' = i ∧ c ≤ c' ∧ c' < c + n) ∧ cellAt xs i' c' = some v) := by
  rcases cellAt_set hv with ⟨rfl, _, hc'⟩ | ⟨hne, hc'⟩
  · have hl1 : (row.take c).length = c := by simp; omega
    by_cases h1 : c' < c
    · rw [List.append_assoc, List.getElem?_append_left (by omega), List.getElem?_take, if_pos h1] at hc'
      exact .inr ⟨by omega, by rw [cellAt_row hrow]; exact hc'⟩
    · by_cases h2 : c' < c + n
      · rw [List.append_assoc, List.getElem?_append_right (by omega), hl1, List.getElem?_append_left (by omega)] at hc'
        exact .inl ⟨rfl, by omega, h2, hc'⟩
      · rw [List.getElem?_append_right (by simp; omega), List.getElem?_drop] at hc'
        simp only [List.length_append, hl1, hcs] at hc'
        have e : c + n + (c' - (c + n)) = c' := by omega
        rw [e] at hc'
        exact .inr ⟨by omega, by rw [cellAt_row hrow]; exact hc'⟩
  · exact .inr ⟨fun h => hne h.1, hc'⟩
theorem cell_bound {xs : List (List AV)} {sz i c : Nat} {v : AV} (hl : ∀ r ∈ xs, r.length = sz) (h : cellAt xs i c = some v) : i < xs.length ∧ c < sz := by
  unfold cellAt at h
  split at h
  · rename_i r hr
    exact ⟨(List.getElem?_eq_some_iff.1 hr).1, by rw [← hl r (List.mem_of_getElem? hr)]; exact (List.getElem?_eq_some_iff.1 h).1⟩
  · cases h

theorem fillOk_get : ∀ {os vs : List AV} {j : Nat} {v : AV}, fillOk os vs = true → vs[j]? = some v → v.scal = true ∨ ∃ f zs, v = .own true zs ∧ os[j]? = some (.own f [])
  | _, [], j, v, _, h => by simp at h
  | [], _ :: _, j, v, h, _ => by simp [fillOk] at h
  | o :: os, u :: vs, j, v, h, hj => by
    simp only [fillOk, Bool.and_eq_true, Bool.or_eq_true] at h
    cases j with
    | succ j => simpa using fillOk_get h.2 (by simpa using hj)
    | zero =>
      simp only [List.getElem?_cons_zero, Option.some.injEq] at hj
      subst hj
      rcases h.1 with h1 | ⟨h1, h2⟩
      · exact .inl h1
      · right
        cases o <;> simp [AV.own0] at h1
        rename_i f zs
        cases u <;> simp [AV.ownF] at h2
        rename_i f' zs'
        cases f' <;> simp at h2
        cases zs <;> simp at h1
        exact ⟨f, zs', rfl, rfl⟩
theorem storeM_does {t : TypeId} {x y : Operand} {inf : TypeInfo} {n : Nat} {xa xx v : AV} {S' : St} (ho : o.op = .store t x y) (hi : P.info? t = some inf) (hn : n = inf.size) (hpos : 0 < n)
    (hW : WRel w0 M R S g w) (hx : VRel S g (stab w0 R) xa (a.eval x)) (hy : VRel S g (stab w0 R) xx (a.eval y)) (h : storeM S n xa xx = some (v, S')) : Does P w0 M R S g a w o S' v := by
  intro next Q hnext
  unfold storeM at h
  split at h
  · rename_i lv s ver p i c ws hws
    have hcells := cells_rel hy hws
    split at h
    · rename_i b ys hat
      obtain ⟨hb, hver, hnav⟩ := at_blk hat
      split at h
      · rename_i row hrow
        split at h
        · rename_i hc
          obtain ⟨hc1, hc2, hc3, hbox, hfl⟩ := hc
          obtain ⟨B, arr, ty, fz, k1, k2, k3, k4, k5, k6, k7, k8, k9⟩ := own_cells hW hat hrow hc1 (hx.ptr_inv.2 _ _ hat)
          have hrun := run_storeAt (P := P) (w := w) (t := t) (B := B) (off := i * csz b.sz p ys + c) (v := a.eval y) hi k3 k4 (by omega) hcells (by omega) hc3
          rw [← k1] at hrun
          have hgo := goes_store_run (a := a) ho hrun
          have hlen : (a.eval y).cells.toList.length = n := by simp; omega
          obtain ⟨d1, d2, d3⟩ := hW.cont lv s b p ys hb hnav
          rw [k2] at d3
          obtain ⟨arr0, ty0, fz0, a1, a2, a3, a4, a5⟩ := d3
          rw [k3] at a1; cases a1
          have hilt : i < ys.length := (List.getElem?_eq_some_iff.1 hrow).1
          have hmul : i * csz b.sz p ys + csz b.sz p ys ≤ ys.length * csz b.sz p ys := by
            have := Nat.mul_le_mul_right (csz b.sz p ys) (show i + 1 ≤ ys.length from hilt)
            rwa [Nat.add_mul, Nat.one_mul] at this
          obtain ⟨arr', e1, e2, e3, e4, e5, e6, e7, e8⟩ := setCells_spec B (a.eval y).cells.toList (i * csz b.sz p ys + c) w arr ty fz k3 (by omega)
          have hout : ∀ i' c', ¬ (i' = i ∧ c ≤ c' ∧ c' < c + n) → c' < csz b.sz p ys → arr'[i' * csz b.sz p ys + c']? = arr[i' * csz b.sz p ys + c']? := fun i' c' hnot hlt => by
            rw [e3, if_neg ?_]
            rintro ⟨q5, q6⟩
            have hii : i' ≠ i ∨ i' = i := by omega
            rcases hii with hne | rfl
            · rcases Nat.lt_or_gt_of_ne hne with hl | hgt
              · have := Nat.mul_le_mul_right (csz b.sz p ys) (show i' + 1 ≤ i from hl)
                rw [Nat.add_mul, Nat.one_mul] at this; omega
              · have := Nat.mul_le_mul_right (csz b.sz p ys) (show i + 1 ≤ i' from hgt)
                rw [Nat.add_mul, Nat.one_mul] at this; omega
            · exact hnot ⟨rfl, by omega, by omega⟩
          have hin : ∀ j, j < n → arr'[i * csz b.sz p ys + (c + j)]? = some ((a.eval y).cells.getD j undef) := fun j hj => by
            rw [e3, if_pos (by omega), show i * csz b.sz p ys + (c + j) - (i * csz b.sz p ys + c) = j by omega, Array.getElem?_toList]
            have : j < (a.eval y).cells.size := by have h9 := hlen; simp at h9; omega
            simp [this]
          unfold Oper.wp
          rw [hgo]
          split at h
          · -- a row's cells
            split at h
            · -- scalars for scalars
              rename_i hsc
              obtain ⟨hs1, hs2⟩ := hsc
              cases h
              simp only [navE, Option.some.injEq] at hnav
              subst hnav
              have hcz : csz b.sz [] b.elems = b.sz := rfl
              simp only [hcz] at d1 d2 a4 a5 e1 e2 e3 e4 e5 e6 e7 e8 hout hin hmul k6 k7 k8
              have hget := blk_get hb
              let b2 : Blk := { b with elems := b.elems.set i (row.take c ++ ws ++ row.drop (c + n)) }
              have hl2 : b2.elems.length = b.elems.length := by simp [b2]
              have hnewsc : ∀ i' c' v, cellAt b2.elems i' c' = some v → (i' = i ∧ c ≤ c' ∧ c' < c + n) → v.scal = true := fun i' c' v hv hh => by
                rcases set_row_cells hrow hc1 hc2 hv with ⟨_, _, _, h3⟩ | ⟨hnot, _⟩
                · exact all_get hs1 h3
                · exact absurd hh hnot
              have hold : ∀ i' c' fl zs, cellAt b2.elems i' c' = some (.own fl zs) → cellAt b.elems i' c' = some (.own fl zs) := fun i' c' fl zs hv => by
                rcases set_row_cells hrow hc1 hc2 hv with ⟨_, _, _, h3⟩ | ⟨_, ho⟩
                · have := all_get hs1 h3; simp [AV.scal] at this
                · exact ho
              have hnav2 : ∀ p ys', navE b2.elems p = some ys' → (p = [] ∧ ys' = b2.elems) ∨ (p ≠ [] ∧ navE b.elems p = some ys') := fun p ys' hp => by
                cases p with
                | nil => simp only [navE, Option.some.injEq] at hp; exact .inl ⟨rfl, hp.symm⟩
                | cons x q =>
                  obtain ⟨i', c'⟩ := x
                  right
                  refine ⟨by simp, ?_⟩
                  simp only [navE] at hp ⊢
                  cases hu : cellAt b2.elems i' c' with
                  | none => simp [hu] at hp
                  | some v =>
                    cases v with
                    | own f z => simp only [hu] at hp; rw [hold _ _ _ _ hu]; exact hp
                    | _ => simp [hu] at hp
              have hE : Ext S g (S.put lv s (some b2)) g := by
                refine ExtS.ext ?_
                intro lv' s' ob hob
                by_cases hcc : lv' = lv ∧ s' = s
                · obtain ⟨rfl, rfl⟩ := hcc
                  rw [hget] at hob; cases hob
                  refine ⟨some b2, by rw [get_put hget]; simp, fun b' hb' => ?_⟩
                  cases hb'
                  refine ⟨b, rfl, Nat.le_refl _, fun _ => ⟨rfl, fun p ys' hp => ?_⟩⟩
                  rcases hnav2 p ys' hp with ⟨rfl, rfl⟩ | ⟨_, hp⟩
                  · exact ⟨b.elems, rfl, by rw [hl2]; exact Nat.le_refl _, rfl, rfl, fun _ _ => rfl⟩
                  · exact ⟨ys', hp, Nat.le_refl _, rfl, rfl, fun _ _ => rfl⟩
                · exact ⟨ob, by rw [get_put hget, if_neg hcc]; exact hob, fun b' hb' => ⟨b', hb', Nat.le_refl _, fun _ => ⟨rfl, fun p ys hp => ⟨ys, hp, Nat.le_refl _, rfl, rfl, fun _ _ => rfl⟩⟩⟩⟩
              have hBo : ∀ lv' s' p, g.θ lv' s' p = some B → lv' = lv ∧ s' = s ∧ p = [] := fun lv' s' p h => hW.inj _ _ _ _ _ _ _ h k2
              refine hnext undef (w.setCells B (i * b.sz + c) (a.eval y).cells.toList) g ⟨?_, hE, .skp⟩
              refine { os := e6.trans hW.os, tape := e7.trans hW.tape, output := e8.trans hW.output, size := by rw [e5]; exact hW.size, keep := fun B' hB' hM => ?_, rng := fun lv' s' p B' h => by rw [e5]; exact hW.rng _ _ _ _ h,
                       fresh := hW.fresh, ext := hW.ext, inj := hW.inj, cont := fun lv' s' b' p ys' hb' hp => ?_ }
              · have hne' : B' ≠ B := by
                  rintro rfl
                  cases lv with
                  | zero => have := hW.fresh s _ B' k2; omega
                  | succ m => rcases hW.ext m s _ B' k2 with h | h
                              · exact hM _ _ _ h
                              · omega
                exact (e4 B' hne').trans (hW.keep B' hB' hM)
              · have other : ∀ {lv' s' : Nat} {p : Path} {b' : Blk} {ys'}, Cont (stab w0 R) S g w lv' s' b' p ys' → g.θ lv' s' p ≠ some B → Cont (stab w0 R) (S.put lv s (some b2)) g (w.setCells B (i * b.sz + c) (a.eval y).cells.toList) lv' s' b' p ys' := fun hco hnB =>
                  hco.mono hE (fun _ => rfl) fun B' hB' => ⟨e4 B' fun e => hnB (by rw [hB', e]), rfl⟩
                rw [blk_put hget] at hb'
                by_cases hcc : lv' = lv ∧ s' = s
                · rw [if_pos hcc] at hb'; cases hb'
                  obtain ⟨rfl, rfl⟩ := hcc
                  rcases hnav2 p ys' hp with ⟨rfl, rfl⟩ | ⟨h1, hp⟩
                  · have hc2' : csz b2.sz [] b2.elems = b.sz := rfl
                    refine ⟨fun r hr => ?_, fun _ => ?_, ?_⟩
                    · rw [hc2']
                      rcases List.mem_or_eq_of_mem_set hr with hr | rfl
                      · exact d1 r hr
                      · have := d1 row (List.mem_of_getElem? hrow); simp; omega
                    · rw [hc2']; exact d2 fun e => by rw [e] at hrow; simp at hrow
                    · rw [k2]
                      refine ⟨arr', ty, fz, e1, by rw [e2]; exact a2, by rw [e2]; exact a3, by rw [hc2', e2, hl2]; exact a4, fun i' c' v hv => ?_⟩
                      rw [hc2']
                      rcases set_row_cells hrow hc1 hc2 hv with ⟨rfl, h1, h2, h3⟩ | ⟨hnot, ho⟩
                      · refine ⟨(a.eval y).cells.getD (c' - c) undef, ?_, ?_⟩
                        · have := hin (c' - c) (by omega)
                          rwa [show c + (c' - c) = c' by omega] at this
                        · exact scal_krel (all_get hs1 h3) ((hcells.2 _ _ h3).mono hE)
                      · obtain ⟨cv, q1, q2⟩ := a5 i' c' v ho
                        refine ⟨cv, ?_, ?_⟩
                        · rw [hout i' c' hnot (cell_bound d1 ho).2]; exact q1
                        · have := q2.mono hE rfl
                          cases v <;> exact this
                  · have := other (hW.cont lv' s' b p ys' hb hp) (fun h => h1 (hBo _ _ _ h).2.2)
                    obtain ⟨u1, u2, u3⟩ := this
                    have hcp : ∀ zs, csz b2.sz p zs = csz b.sz p zs := fun _ => rfl
                    refine ⟨u1, u2, ?_⟩
                    cases hB0 : g.θ lv' s' p with
                    | none => rw [hB0] at u3; exact u3
                    | some B0 =>
                      rw [hB0] at u3
                      obtain ⟨arrb, tyb, fzb, b1, b2', b3, b4, b5⟩ := u3
                      refine ⟨arrb, tyb, fzb, b1, b2', b3, b4, fun i' c' v hv => ?_⟩
                      obtain ⟨cv, q1, q2⟩ := b5 _ _ _ hv
                      refine ⟨cv, q1, ?_⟩
                      cases v <;> exact q2
                · rw [if_neg hcc] at hb'
                  exact other (hW.cont lv' s' b' p ys' hb' hp) fun h => by have := hBo _ _ _ h; exact hcc ⟨this.1, this.2.1⟩
            split at h
            · rename_i cs S1 hmv
              cases h
              simp only [navE, Option.some.injEq] at hnav
              subst hnav
              have hcz : csz b.sz [] b.elems = b.sz := rfl
              simp only [hcz] at d1 d2 a4 a5 e1 e2 e3 e4 e5 e6 e7 e8 hout hin hmul k6 k7 k8
              obtain ⟨g1, T, m1, m2, m3, m4, m5⟩ := moveCells_rel (us := fun j => (a.eval y).cells.getD j undef) hmv hW hcells.2
              have hb1 : S1.blk lv s = some b := get_blk (m1.get.trans (blk_get hb))
              have hcn : cs.length = n := by omega
              have hθB : g1.θ lv s [] = some B := (m1.here []).trans k2
              have hvv : b.ver < (if fillOk ((row.drop c).take n) cs then b.ver else b.ver + 1) ∨ ((if fillOk ((row.drop c).take n) cs then b.ver else b.ver + 1) = b.ver ∧ (b.elems.set i (row.take c ++ cs ++ row.drop (c + n))).length = b.elems.length ∧ g1.θ lv s [] = some B ∧ arr'.size = g1.κ B ∧ ∀ (j : Nat) v, cs[j]? = some v → v.scal = true ∨ ∃ f zs, v = .own true zs ∧ cellAt b.elems i (c + j) = some (.own f [])) := by
                cases hfo : fillOk ((row.drop c).take n) cs with
                | false => left; simp
                | true =>
                  right
                  refine ⟨by simp, by simp, hθB, by rw [m1.κ, e2]; exact a3, fun j v hj => ?_⟩
                  rcases fillOk_get hfo hj with h | ⟨f, zs, h1, h2⟩
                  · exact .inl h
                  · refine .inr ⟨f, zs, h1, ?_⟩
                    rw [cellAt_row hrow]
                    rw [List.getElem?_take] at h2
                    split at h2
                    · rwa [List.getElem?_drop] at h2
                    · cases h2
              obtain ⟨g2, r1, r2, r3, r4⟩ := m1.wrel.refill (lv := lv) (s := s) (b := b) (b2 := { b with ver := if fillOk ((row.drop c).take n) cs then b.ver else b.ver + 1, elems := b.elems.set i (row.take c ++ cs ++ row.drop (c + n)) }) (i0 := i) (c0 := c) (n := n) (cs := cs) (T := T) (us := fun j => (a.eval y).cells.getD j undef) (w' := w.setCells B (i * b.sz + c) (a.eval y).cells.toList)
                hb1 hbox hfl rfl rfl rfl rfl hvv (fun i' c' v hv => set_row_cells hrow hc1 hcn hv) (fun r hr => by
                  rcases List.mem_or_eq_of_mem_set hr with hr | rfl
                  · exact d1 r hr
                  · have := d1 row (List.mem_of_getElem? hrow); simp; omega) (d2 (fun e => by rw [e] at hrow; simp at hrow)) (fun j v hj => by rw [m1.κ]; exact m3 j v hj) (fun j q B' hB' => by
                  obtain ⟨⟨s', h1⟩, h2⟩ := m4 j q B' hB'
                  exact ⟨hW.fresh _ _ _ h1, hW.rng _ _ _ _ h1, h2⟩) m5 (.inl hθB) (by rw [e5]; exact hW.rng _ _ _ _ k2) e6 e7 e8 (by omega) (fun B' _ hne => e4 B' hne) e1 (by rw [e2]; exact a2) (by rw [e2, List.length_set]; exact a4)
                (fun i' c' v hnot hv _ => by
                  obtain ⟨cv, q1, q2⟩ := a5 i' c' v hv
                  refine ⟨cv, by rw [hout i' c' hnot (cell_bound d1 hv).2]; exact q1, ?_⟩
                  exact q2.mono m1.ext (m1.here _)) (fun j v hj => hin j (by have := (List.getElem?_eq_some_iff.1 hj).1; omega))
              exact hnext undef _ g2 ⟨r1, m1.ext.trans r2, .skp⟩
            · cases h
          · -- a row inside
            rename_i k d
            split at h
            · rename_i zs hcell
              split at h
              · rename_i hsc
                cases h
                have hyz : zs = ys := by simpa [navE, hcell] using hnav
                subst hyz
                have hcz : ∀ zs', csz b.sz [(k, d)] zs' = rowSz zs' := fun _ => rfl
                have hne : zs ≠ [] := fun e => by rw [e] at hrow; simp at hrow
                let row' := row.take c ++ ws ++ row.drop (c + n)
                have hrl : row'.length = row.length := by simp [row']; omega
                have hsl : (zs.set i row').length = zs.length := by simp
                have hrs : rowSz (zs.set i row') = rowSz zs := by
                  refine rowSz_of (fun r hr => ?_) (fun e => hne (by rw [← List.length_eq_zero_iff, ← hsl, e]; rfl))
                  rcases List.mem_or_eq_of_mem_set hr with hr | rfl
                  · exact d1 r hr
                  · rw [hrl]; exact d1 row (List.mem_of_getElem? hrow)
                have hwsc : ∀ (j : Nat) u, ws[j]? = some u → u.scal = true := fun j u hj => all_get hsc hj
                -- all cells inside are scalars
                have hown0 : OwnRel (g.θ lv s ([] ++ [(k, d)])) true zs ((arr.getD 0 undef)) ∨ True := .inr trivial
                obtain ⟨o1, o2, o3⟩ := hW.cont lv s b [] b.elems hb rfl
                have hzs : ∀ r ∈ zs, ∀ u ∈ r, u.scal = true := by
                  cases hB0 : g.θ lv s [] with
                  | none => rw [hB0] at o3; rw [o3] at hcell; simp [cellAt] at hcell
                  | some B0 =>
                    rw [hB0] at o3
                    obtain ⟨arrb, tyb, fzb, b1, b2, b3, b4, b5⟩ := o3
                    obtain ⟨cv, c1, c2⟩ := b5 _ _ _ hcell
                    exact (krel_own.1 c2).2.2.1 rfl
                have hzs' : ∀ r ∈ zs.set i row', ∀ u ∈ r, u.scal = true := fun r hr u hu => by
                  rcases List.mem_or_eq_of_mem_set hr with hr | rfl
                  · exact hzs r hr u hu
                  · simp only [row', List.mem_append] at hu
                    rcases hu with (hu | hu) | hu
                    · exact hzs row (List.mem_of_getElem? hrow) u (List.mem_of_mem_take hu)
                    · obtain ⟨j, hj⟩ := List.getElem?_of_mem hu; exact hwsc j u hj
                    · exact hzs row (List.mem_of_getElem? hrow) u (List.mem_of_mem_drop hu)
                let b2 : Blk := { b with elems := setCell b.elems k d (.own true (zs.set i row')) }
                have hcell2 : ∀ i' c' v, cellAt b2.elems i' c' = some v → (i' = k ∧ c' = d ∧ v = .own true (zs.set i row')) ∨ (¬ (i' = k ∧ c' = d) ∧ cellAt b.elems i' c' = some v) := fun i' c' v hv => by
                  unfold cellAt at hv ⊢
                  simp only [b2, setCell, List.getElem?_modify] at hv
                  cases hr : b.elems[i']? with
                  | none => rw [hr] at hv; simp at hv
                  | some r =>
                    rw [hr] at hv
                    simp only [Option.map_eq_map, Option.map_some] at hv
                    by_cases hk : k = i'
                    · rw [if_pos hk] at hv
                      rw [List.getElem?_set] at hv
                      by_cases hd : d = c'
                      · rw [if_pos hd] at hv
                        split at hv
                        · cases hv; exact .inl ⟨hk.symm, hd.symm, rfl⟩
                        · cases hv
                      · rw [if_neg hd] at hv; exact .inr ⟨fun hh => hd hh.2.symm, hv⟩
                    · rw [if_neg hk] at hv; exact .inr ⟨fun hh => hk hh.1.symm, hv⟩
                have hget := blk_get hb
                have hl2 : b2.elems.length = b.elems.length := by simp [b2, setCell]
                have hnav2 : ∀ p ys', navE b2.elems p = some ys' → (p = [] ∧ ys' = b2.elems) ∨ (p = [(k, d)] ∧ ys' = zs.set i row') ∨ (p ≠ [] ∧ p ≠ [(k, d)] ∧ (∀ q, p ≠ (k, d) :: q) ∧ navE b.elems p = some ys') := fun p ys' hp => by
                  cases p with
                  | nil => simp only [navE, Option.some.injEq] at hp; exact .inl ⟨rfl, hp.symm⟩
                  | cons x q =>
                    obtain ⟨i', c'⟩ := x
                    simp only [navE] at hp
                    cases hu : cellAt b2.elems i' c' with
                    | none => simp [hu] at hp
                    | some v =>
                      rcases hcell2 i' c' v hu with ⟨rfl, rfl, rfl⟩ | ⟨hnot, ho⟩
                      · simp only [hu] at hp
                        cases q with
                        | nil => simp only [navE, Option.some.injEq] at hp; exact .inr (.inl ⟨rfl, hp.symm⟩)
                        | cons z q =>
                          obtain ⟨i3, c3⟩ := z
                          simp only [navE] at hp
                          cases hz : cellAt (zs.set i row') i3 c3 with
                          | none => simp [hz] at hp
                          | some u =>
                            have husc : u.scal = true := by
                              unfold cellAt at hz
                              split at hz
                              · rename_i r hr; exact hzs' r (List.mem_of_getElem? hr) u (List.mem_of_getElem? hz)
                              · cases hz
                            cases u <;> first | (simp [AV.scal] at husc; done) | (simp [hz] at hp)
                      · refine .inr (.inr ⟨by simp, fun e => ?_, fun q' e => ?_, ?_⟩)
                        · simp only [List.cons.injEq, Prod.mk.injEq] at e; exact hnot ⟨e.1.1, e.1.2⟩
                        · simp only [List.cons.injEq, Prod.mk.injEq] at e; exact hnot ⟨e.1.1, e.1.2⟩
                        · simp only [navE, ho]
                          cases v with
                          | own f z => simp only [hu] at hp; exact hp
                          | _ => simp [hu] at hp
                have hE : Ext S g (S.put lv s (some b2)) g := by
                  refine ExtS.ext ?_
                  intro lv' s' ob hob
                  by_cases hcc : lv' = lv ∧ s' = s
                  · obtain ⟨rfl, rfl⟩ := hcc
                    rw [hget] at hob; cases hob
                    refine ⟨some b2, by rw [get_put hget]; simp, fun b' hb' => ?_⟩
                    cases hb'
                    refine ⟨b, rfl, Nat.le_refl _, fun _ => ⟨rfl, fun p ys' hp => ?_⟩⟩
                    rcases hnav2 p ys' hp with ⟨rfl, rfl⟩ | ⟨rfl, rfl⟩ | ⟨_, _, _, hp⟩
                    · exact ⟨b.elems, rfl, by rw [hl2]; exact Nat.le_refl _, rfl, rfl, fun _ _ => rfl⟩
                    · exact ⟨zs, hnav, by rw [hsl]; exact Nat.le_refl _, by rw [hcz, hcz]; exact hrs, rfl, fun _ _ => rfl⟩
                    · exact ⟨ys', hp, Nat.le_refl _, rfl, rfl, fun _ _ => rfl⟩
                  · exact ⟨ob, by rw [get_put hget, if_neg hcc]; exact hob, fun b' hb' => ⟨b', hb', Nat.le_refl _, fun _ => ⟨rfl, fun p ys hp => ⟨ys, hp, Nat.le_refl _, rfl, rfl, fun _ _ => rfl⟩⟩⟩⟩
                have hBo : ∀ lv' s' p, g.θ lv' s' p = some B → lv' = lv ∧ s' = s ∧ p = [(k, d)] := fun lv' s' p h => hW.inj _ _ _ _ _ _ _ h k2
                refine hnext undef (w.setCells B (i * csz b.sz [(k, d)] zs + c) (a.eval y).cells.toList) g ⟨?_, hE, .skp⟩
                refine { os := e6.trans hW.os, tape := e7.trans hW.tape, output := e8.trans hW.output, size := by rw [e5]; exact hW.size, keep := fun B' hB' hM => ?_, rng := fun lv' s' p B' h => by rw [e5]; exact hW.rng _ _ _ _ h,
                         fresh := hW.fresh, ext := hW.ext, inj := hW.inj, cont := fun lv' s' b' p ys' hb' hp => ?_ }
                · have hne' : B' ≠ B := by
                    rintro rfl
                    cases lv with
                    | zero => have := hW.fresh s _ B' k2; omega
                    | succ m => rcases hW.ext m s _ B' k2 with h | h
                                · exact hM _ _ _ h
                                · omega
                  exact (e4 B' hne').trans (hW.keep B' hB' hM)
                · have other : ∀ {lv' s' : Nat} {p : Path} {b' : Blk} {ys'}, Cont (stab w0 R) S g w lv' s' b' p ys' → g.θ lv' s' p ≠ some B → Cont (stab w0 R) (S.put lv s (some b2)) g (w.setCells B (i * csz b.sz [(k, d)] zs + c) (a.eval y).cells.toList) lv' s' b' p ys' := fun hco hnB =>
                    hco.mono hE (fun _ => rfl) fun B' hB' => ⟨e4 B' fun e => hnB (by rw [hB', e]), rfl⟩
                  rw [blk_put hget] at hb'
                  by_cases hcc : lv' = lv ∧ s' = s
                  · rw [if_pos hcc] at hb'; cases hb'
                    obtain ⟨rfl, rfl⟩ := hcc
                    rcases hnav2 p ys' hp with ⟨rfl, rfl⟩ | ⟨rfl, rfl⟩ | ⟨h1, h2, h3, hp⟩
                    · -- the rows themselves: one cell owns other rows now
                      have hb0 := other (hW.cont lv' s' b [] b.elems hb rfl) (fun h => by have := (hBo _ _ _ h).2.2; cases this)
                      obtain ⟨u1, u2, u3⟩ := hb0
                      have hc2 : csz b2.sz [] b2.elems = csz b.sz [] b.elems := rfl
                      refine ⟨fun r hr => ?_, fun hne2 => by rw [hc2]; exact u2 fun e => hne2 (by rw [← List.length_eq_zero_iff, hl2, e]; rfl), ?_⟩
                      · rw [hc2]
                        obtain ⟨j, hj⟩ := List.getElem?_of_mem hr
                        rw [show b2.elems = b.elems.modify k (fun r => r.set d (.own true (zs.set i row'))) from rfl, List.getElem?_modify] at hj
                        cases hr0 : b.elems[j]? with
                        | none => rw [hr0] at hj; simp at hj
                        | some r0 =>
                          rw [hr0] at hj
                          simp only [Option.map_eq_map, Option.map_some, Option.some.injEq] at hj
                          have := u1 r0 (List.mem_of_getElem? hr0)
                          rw [← hj]; split <;> simpa using this
                      · cases hB0 : g.θ lv' s' [] with
                        | none =>
                          rw [hB0] at u3
                          rw [← List.length_eq_zero_iff, hl2, u3]; rfl
                        | some B0 =>
                          rw [hB0] at u3
                          obtain ⟨arrb, tyb, fzb, b1, b2', b3, b4, b5⟩ := u3
                          refine ⟨arrb, tyb, fzb, b1, b2', b3, by rw [hc2, hl2]; exact b4, fun i' c' v hv => ?_⟩
                          rw [hc2]
                          rcases hcell2 i' c' v hv with ⟨rfl, rfl, rfl⟩ | ⟨hnot, ho⟩
                          · obtain ⟨cv, q1, q2⟩ := b5 _ _ _ hcell
                            refine ⟨cv, q1, ?_⟩
                            obtain ⟨m1, m2, m3⟩ := krel_own.1 q2
                            obtain ⟨n1, A, cap, n2, n3, n4⟩ := m3
                            exact krel_own.2 ⟨m1, m2, fun _ => hzs', A, cap, by rw [hsl]; exact n2, by rw [hsl]; exact n3, n4⟩
                          · obtain ⟨cv, q1, q2⟩ := b5 _ _ _ ho
                            refine ⟨cv, q1, ?_⟩
                            cases v <;> exact q2
                    · -- the row that is written
                      refine ⟨fun r hr => ?_, fun _ => ?_, ?_⟩
                      · show r.length = rowSz _
                        rw [hrs]
                        rcases List.mem_or_eq_of_mem_set hr with hr | rfl
                        · exact d1 r hr
                        · rw [hrl]; exact d1 row (List.mem_of_getElem? hrow)
                      · show 0 < rowSz _
                        rw [hrs]; exact d2 hne
                      · rw [k2]
                        refine ⟨arr', ty, fz, e1, by rw [e2]; show FreeS (rowSz (zs.set i row')) _ _; rw [hrs]; exact a2, by rw [e2]; exact a3, ?_, fun i' c' v hv => ?_⟩
                        · show (zs.set i row').length * rowSz _ ≤ _
                          rw [hrs, hsl, e2]; exact a4
                        · show ∃ cv, arr'[i' * rowSz (zs.set i row') + c']? = some cv ∧ _
                          rw [hrs]
                          rcases set_row_cells hrow hc1 hc2 hv with ⟨rfl, h1, h2, h3⟩ | ⟨hnot, ho⟩
                          · refine ⟨(a.eval y).cells.getD (c' - c) undef, ?_, ?_⟩
                            · have := hin (c' - c) (by omega)
                              rwa [show c + (c' - c) = c' by omega] at this
                            · have hs := hwsc _ _ h3
                              exact scal_krel hs ((hcells.2 _ _ h3).mono hE)
                          · obtain ⟨cv, q1, q2⟩ := a5 i' c' v ho
                            refine ⟨cv, ?_, ?_⟩
                            · rw [show i' * rowSz zs + c' = i' * csz b.sz [(k, d)] zs + c' from rfl, hout i' c' hnot (cell_bound d1 ho).2]; exact q1
                            · have := q2.mono hE rfl
                              cases v <;> exact this
                    · have := other (hW.cont lv' s' b p ys' hb hp) (fun h => h2 (hBo _ _ _ h).2.2)
                      obtain ⟨u1, u2, u3⟩ := this
                      have hcs2 : csz b2.sz p ys' = csz b.sz p ys' := rfl
                      refine ⟨u1, u2, ?_⟩
                      cases hB0 : g.θ lv' s' p with
                      | none => rw [hB0] at u3; exact u3
                      | some B0 =>
                        rw [hB0] at u3
                        obtain ⟨arrb, tyb, fzb, b1, b2', b3, b4, b5⟩ := u3
                        refine ⟨arrb, tyb, fzb, b1, b2', b3, b4, fun i' c' v hv => ?_⟩
                        obtain ⟨cv, q1, q2⟩ := b5 _ _ _ hv
                        refine ⟨cv, q1, ?_⟩
                        cases v <;> exact q2
                  · rw [if_neg hcc] at hb'
                    exact other (hW.cont lv' s' b' p ys' hb' hp) fun h => by have := hBo _ _ _ h; exact hcc ⟨this.1, this.2.1⟩
              · cases h
            · cases h
          · cases h
        · cases h
      · cases h
    · cases h
  · cases h
end
end Go.Ae
namespace Go.Ae
open Go.RowKit
set_option linter.unusedVariables false
set_option linter.unusedSimpArgs false
section
variable {P : Program} {w w' w0 : World} {M : Nat → Nat → Path → Option Nat} {R : Nat → Prop} {S : St} {g : G} {a : Act} {o : Oper}

theorem Does.ext {S1 S' : St} {g1 : G} {v : AV} (h : Does P w0 M R S1 g1 a w o S' v) (hE : Ext S g S1 g1) : Does P w0 M R S g a w o S' v := fun next Q hn => h next Q fun cv w' g' hO => hn cv w' g' ⟨hO.wrel, hE.trans hO.ext, hO.val⟩

theorem appM2_does {t tx e e' : TypeId} {x y : Operand} {it : TypeInfo} {zero : List AV} {lv s ver len tt tv : Nat} {v : AV} {S' : St}
    (ho : o.op = .call { callee := .builtin .append, args := #[x, y], argTypes := #[t, tx] }) (ht : P.underlying t = some (.slice e)) (htx : P.underlying tx = some (.slice e')) (hit : P.info? e = some it) (hz : zeroOf P e = some zero) (hpos : 0 < it.size)
    (hW : WRel w0 M R S g w) (hx : VRel S g (stab w0 R) (.sl lv s ver [] 0 len) (a.eval x)) (hy : VRel S g (stab w0 R) (.sl 0 tt tv [] 0 1) (a.eval y)) (h : appM2 S it.size it.bytes lv s ver len tt tv = some (v, S')) : Does P w0 M R S g a w o S' v := by
  obtain ⟨it', z, hit', hzz, hz1, hz2⟩ := zeroOf_info hz
  rw [hit] at hit'; cases hit'
  unfold appM2 at h
  split at h
  · rename_i b xs bx row hat hatx
    split at h
    · rename_i hc
      obtain ⟨hbox, hbfl, hbsz, hlen, hbxb, hrl, hone, hb1, hb2⟩ := hc
      split at h
      · rename_i cs S1 hmv
        cases h
        obtain ⟨hb, hver, hnav⟩ := at_blk hat
        simp only [navE, Option.some.injEq] at hnav
        subst hnav
        subst hlen
        obtain ⟨hbx, hverx, hnavx⟩ := at_blk hatx
        simp only [navE, Option.some.injEq] at hnavx
        obtain ⟨A, cap, hcx, d1, d2, d3⟩ := hx.sl_inv.2 _ _ hat
        obtain ⟨Ay, capy, hcy, y1, y2, y3⟩ := hy.sl_inv.2 _ _ hatx
        replace d3 := d3 (.inl rfl)
        replace y3 := y3 (.inl rfl)
        have hcz : csz b.sz [] b.elems = b.sz := rfl
        obtain ⟨c1, c2, c3⟩ := hW.cont lv s b [] b.elems hb rfl
        rw [hcz] at c1 c2 c3
        -- what is appended
        obtain ⟨By, arry, hBy, hAy, hcellsY⟩ : ∃ By arry, g.θ 0 tt [] = some By ∧ Ay = some ⟨By, 0, none⟩ ∧ (∃ ty fz, w.heap[By]? = some (.cells arry ty fz)) ∧ ∀ (j : Nat) u, row[j]? = some u → ∃ cv, arry[j]? = some cv ∧ VRel S g (stab w0 R) u cv := by
          obtain ⟨p1, p2, p3⟩ := hW.cont 0 tt bx [] bx.elems hbx rfl
          cases hB : g.θ 0 tt [] with
          | none => rw [hB] at y3; omega
          | some By =>
            rw [hB] at p3 y3
            obtain ⟨arr, ty, fz, a1, a2, a3, a4, a5⟩ := p3
            simp only [Nat.zero_mul] at y3
            refine ⟨By, arr, rfl, by rcases y3.1 with h | h <;> first | omega | exact h, ⟨ty, fz, a1⟩, fun j u hj => ?_⟩
            obtain ⟨cv, q1, q2⟩ := a5 0 j u (by rw [hnavx]; simpa [cellAt] using hj)
            simp only [Nat.zero_mul, Nat.zero_add] at q1
            refine ⟨cv, q1, ?_⟩
            have hno : ∀ fl zs, u ≠ .own fl zs := fun fl zs e => by
              have := all_get hone hj
              rw [e] at this; simp [AV.one] at this
            cases u <;> first | exact absurd rfl (hno _ _) | (have := q2.1; rwa [mapR_up0] at this)
        obtain ⟨⟨tyy, fzy, hheapY⟩, hcellsY⟩ := hcellsY
        let us : Nat → Value := fun j => arry.getD j undef
        have hus : ∀ (j : Nat) u, row[j]? = some u → arry[j]? = some (us j) ∧ VRel S g (stab w0 R) u (us j) := fun j u hj => by
          obtain ⟨cv, q1, q2⟩ := hcellsY j u hj
          have : us j = cv := by simp [us, q1]
          rw [this]; exact ⟨q1, q2⟩
        have hrow : ∀ j, j < b.sz → ∃ u, row[j]? = some u := fun j hj => ⟨row[j]'(by omega), List.getElem?_eq_getElem _⟩
        let news : List Value := (List.range b.sz).map us
        have hnl : news.length = b.sz := by simp [news]
        have hnj : ∀ (j : Nat) u, news[j]? = some u → j < b.sz ∧ u = us j := fun j u hj => by
          have hlt : j < b.sz := by have := (List.getElem?_eq_some_iff.1 hj).1; rwa [hnl] at this
          refine ⟨hlt, ?_⟩
          simp only [news, List.getElem?_map, List.getElem?_range hlt, Option.map_some, Option.some.injEq] at hj
          exact hj.symm
        have hsrc : Src P it.size tx (a.eval y) 1 news w := by
          rw [hcy, hAy]
          refine Src.ofSlice w htx ⟨By, 0, none⟩ 1 capy news (by rw [hnl, hbsz]; simp) (fun j u hj => ?_) (fun u hu => ?_)
          · obtain ⟨hlt, rfl⟩ := hnj j u hj
            obtain ⟨r, hr⟩ := hrow j hlt
            rw [Addr.add_lit, blk_cell' hheapY, Nat.zero_add]
            exact (hus j r hr).1
          · obtain ⟨j, hj⟩ := List.getElem?_of_mem hu
            obtain ⟨hlt, rfl⟩ := hnj j u hj
            obtain ⟨r, hr⟩ := hrow j hlt
            exact one_cell (all_get hone hr) (hus j r hr).2
        obtain ⟨g1, T, m1, m2, m3, m4, m5⟩ := moveCells_rel (us := us) hmv hW fun j u hj => (hus j u hj).2
        have hcl : cs.length = b.sz := by omega
        have hbl1 : S1.blk lv s = some b := get_blk (m1.get.trans (blk_get hb))
        let b2 : Blk := { b with ver := b.ver + 1, elems := b.elems ++ [cs] }
        have hget1 := blk_get hbl1
        have hb2k : (S1.put lv s (some b2)).blk lv s = some b2 := by rw [blk_put hget1]; simp
        have hvr : ∀ {g2 : G} {A' : Option Addr} {cap' B2 : Nat}, b.elems.length + 1 ≤ cap' → g2.θ lv s [] = some B2 → A' = some ⟨B2, 0, none⟩ → cap' * b.sz ≤ g2.κ B2 →
            VRel (S1.put lv s (some b2)) g2 (stab w0 R) (.sl lv s (ver + 1) [] 0 (b.elems.length + 1)) (.slice A' (b.elems.length + 1) cap') := fun {g2 A' cap' B2} hle hθ hA' hm => by
          refine .sl _ _ _ _ _ _ _ ⟨some b2, blk_get hb2k, fun b' h => by cases h; show ver + 1 ≤ b.ver + 1; omega⟩ ⟨_, _, _, rfl⟩ fun b' zs hat' => ?_
          obtain ⟨h1, h2, h3⟩ := at_blk hat'
          rw [hb2k] at h1; cases h1
          simp only [navE, Option.some.injEq] at h3
          subst h3
          refine ⟨A', cap', rfl, hle, by show 0 + _ ≤ (b.elems ++ [cs]).length; simp, ?_⟩
          rw [hθ]
          simp only [Nat.zero_mul, Nat.zero_add]
          exact fun _ => ⟨.inr hA', fun _ => hm⟩
        have hcell : ∀ i c v, cellAt b2.elems i c = some v → (i = b.elems.length ∧ 0 ≤ c ∧ c < 0 + b.sz ∧ cs[c - 0]? = some v) ∨ (¬ (i = b.elems.length ∧ 0 ≤ c ∧ c < 0 + b.sz) ∧ cellAt b.elems i c = some v) := fun i c v hv => by
          rcases cellAt_append hv with ⟨hi, hv⟩ | ⟨hi, hv⟩
          · exact .inr ⟨by omega, hv⟩
          · left
            have h0 : i - b.elems.length = 0 := by
              unfold cellAt at hv
              split at hv
              · rename_i r hr; have := (List.getElem?_eq_some_iff.1 hr).1; simp at this; omega
              · cases hv
            rw [h0] at hv
            have hv' : cs[c]? = some v := by simpa [cellAt] using hv
            have := (List.getElem?_eq_some_iff.1 hv').1
            exact ⟨by omega, Nat.zero_le _, by omega, by simpa using hv'⟩
        have hrows : ∀ r ∈ b2.elems, r.length = b.sz := fun r hr => by
          rcases List.mem_append.1 hr with hr | hr
          · exact c1 r hr
          · simp at hr; subst hr; exact hcl
        have hT1 : ∀ (j : Nat) q B, T j q = some B → w0.heap.size ≤ B ∧ B < w.heap.size ∧ ∀ lv' s' p, g1.θ lv' s' p ≠ some B := fun j q B' hB' => by
          obtain ⟨⟨s', h1⟩, h2⟩ := m4 j q B' hB'
          exact ⟨hW.fresh _ _ _ h1, hW.rng _ _ _ _ h1, h2⟩
        have hN : ∀ (j : Nat) v, cs[j]? = some v → CellN w g1.κ (T j) v (us j) := fun j v hj => by rw [m1.κ]; exact m3 j v hj
        have hl2 : b2.elems.length = b.elems.length + 1 := by simp [b2]
        by_cases hroom : b.elems.length + 1 ≤ cap
        · cases hB : g.θ lv s [] with
          | none => rw [hB] at d3; omega
          | some B =>
            rw [hB] at d3 c3
            simp only [Nat.zero_mul, Nat.zero_add] at d3
            obtain ⟨arr, ty, fz, a1, a2, a3, a4, a5⟩ := c3
            have hA : A = some ⟨B, 0, none⟩ := by rcases d3.1 with h | h <;> first | omega | exact h
            have hcapsz := d3.2 trivial
            have hmul : (b.elems.length + 1) * b.sz ≤ cap * b.sz := Nat.mul_le_mul_right _ hroom
            have hmul2 : (b.elems.length + 1) * b.sz = b.elems.length * b.sz + b.sz := by rw [Nat.add_mul, Nat.one_mul]
            have hrun := run_append_room_src (P := P) w t tx o.type e it ht hit B 0 b.elems.length cap (a.eval y) 1 news hsrc hroom (fun j hj => by
                rw [blk_cell' a1, ← hbsz, Array.getElem?_eq_getElem (by omega)]; rfl) (fun j hj => by
                simp only [World.frozen?, a1]; exact a2.1 _ (by rw [← hbsz]; omega))
            rw [← hA, ← hcx, ← hbsz, Nat.zero_add] at hrun
            obtain ⟨arr', e1, e2, e3, e4, e5, e6, e7, e8⟩ := setCells_spec B news (b.elems.length * b.sz) w arr ty fz a1 (by omega)
            obtain ⟨g2, r1, r2, r3, r4⟩ := m1.wrel.refill (lv := lv) (s := s) (b := b) (b2 := b2) (i0 := b.elems.length) (c0 := 0) (n := b.sz) (cs := cs) (T := T) (us := us) (w' := w.setCells B (b.elems.length * b.sz) news) (B2 := B)
              hbl1 hbox hbfl rfl rfl rfl rfl (.inl (Nat.lt_succ_self _)) hcell hrows (by rw [hbsz]; exact hpos) hN hT1 m5 (.inl ((m1.here []).trans hB)) (by rw [e5]; exact hW.rng _ _ _ _ hB) e6 e7 e8 (by omega) (fun B' _ hne => e4 B' hne) e1 (by rw [e2]; exact a2) (by rw [e2, hl2]; omega)
              (fun i' c' v hnot hv _ => by
                obtain ⟨cv, q1, q2⟩ := a5 i' c' v hv
                obtain ⟨h1, h2⟩ := cell_bound c1 hv
                refine ⟨cv, ?_, q2.mono m1.ext (m1.here _)⟩
                rw [e3, if_neg ?_]
                · exact q1
                · have hm := Nat.mul_le_mul_right b.sz (show i' + 1 ≤ b.elems.length from h1)
                  rw [Nat.add_mul, Nat.one_mul] at hm
                  omega) (fun j v hj => by
                have hlt := (List.getElem?_eq_some_iff.1 hj).1
                rw [e3, if_pos (by omega), show b.elems.length * b.sz + (0 + j) - b.elems.length * b.sz = j by omega]
                simp only [news, List.getElem?_map, List.getElem?_range (show j < b.sz by omega), Option.map_some])
            refine Goes.does ⟨_, _, g2, goes_app_run ho hrun, r1, m1.ext.trans r2, ?_⟩
            exact hvr hroom r3 hA (by rw [r4, e2, a3]; exact hcapsz)
        · -- a new row
          obtain ⟨olds, hold, holdl, hcells⟩ : ∃ olds : List Value, (Builtin.firstCells it.size b.elems.length (.slice A b.elems.length cap)).run P w.drew = .ok olds.toArray w.drew ∧ olds.length = b.elems.length * b.sz ∧
              ∀ i c u, cellAt b.elems i c = some u → ∃ cv, olds[i * b.sz + c]? = some cv ∧ KRel (stab w0 R) S g lv s b [] i c u cv := by
            cases hB : g.θ lv s [] with
            | none =>
              rw [hB] at d3 c3
              rw [d3.1, c3]
              exact ⟨[], run_firstCells_none w.drew _ _ _ _, by simp, fun i c u hu => by simp [cellAt] at hu⟩
            | some B =>
              rw [hB] at d3 c3
              simp only [Nat.zero_mul, Nat.zero_add] at d3
              obtain ⟨arr, ty, fz, a1, a2, a3, a4, a5⟩ := c3
              refine ⟨arr.toList.take (b.elems.length * b.sz), ?_, by simp; omega, fun i c u hu => ?_⟩
              · cases A with
                | none =>
                  have : cap = 0 := by rcases d3.1 with h | h <;> first | exact h | cases h
                  have hl0 : b.elems.length = 0 := by omega
                  rw [hl0]; simp [Builtin.firstCells]
                | some ad =>
                  refine run_firstCells_some w.drew it.size b.elems.length ad b.elems.length cap _ (by simp; rw [← hbsz]; omega) fun j u hj => ?_
                  have hlt : j < b.elems.length * b.sz := by have := (List.getElem?_eq_some_iff.1 hj).1; simp at this; omega
                  have hl0 : b.elems.length ≠ 0 := fun h => by rw [h] at hlt; omega
                  have hA : ad = ⟨B, 0, none⟩ := by rcases d3.1 with h | h <;> first | omega | (cases h; rfl)
                  rw [hA, Addr.add_lit]
                  rw [List.getElem?_take, if_pos hlt, Array.getElem?_toList] at hj
                  rw [show w.drew.cell? _ = w.cell? ⟨B, 0 + j, none⟩ from rfl, blk_cell' a1, Nat.zero_add]; exact hj
              · obtain ⟨cv, q1, q2⟩ := a5 i c u hu
                obtain ⟨h1, h2⟩ := cell_bound c1 hu
                have hm := Nat.mul_le_mul_right b.sz (show i + 1 ≤ b.elems.length from h1)
                rw [Nat.add_mul, Nat.one_mul] at hm
                exact ⟨cv, by rw [List.getElem?_take, if_pos (by omega), Array.getElem?_toList]; exact q1, q2⟩
          have hrun := run_append_grow_src (P := P) w t tx o.type e it z ht hit hzz A b.elems.length cap olds hold (a.eval y) 1 news hsrc (by omega) (by omega) (growslice_fits (by omega) hb1)
          rw [← hcx] at hrun
          have hge := grownCap_ge w (b.elems.length + 1) cap e
          generalize hgc : grownCap w (b.elems.length + 1) cap e = gc at hrun hge
          let arr2 : Array Value := (olds ++ news).toArray ++ Builtin.zeroCells z.cells (gc - (b.elems.length + 1))
          have hm1 : (b.elems.length + 1) * b.sz = b.elems.length * b.sz + b.sz := by rw [Nat.add_mul, Nat.one_mul]
          have harr2 : arr2.size = gc * b.sz := by
            simp only [arr2, Array.size_append, size_zeroCells, List.size_toArray, List.length_append, holdl, hnl, hz1, hz2, ← hbsz]
            rw [← hm1, ← Nat.add_mul]; congr 1; omega
          have hge2 : (b.elems.length + 1) * b.sz ≤ gc * b.sz := Nat.mul_le_mul_right _ hge
          obtain ⟨g2, r1, r2, r3, r4⟩ := m1.wrel.refill (lv := lv) (s := s) (b := b) (b2 := b2) (i0 := b.elems.length) (c0 := 0) (n := b.sz) (cs := cs) (T := T) (us := us) (w' := w.drew.alloc (.cells arr2 e)) (B2 := w.heap.size)
            hbl1 hbox hbfl rfl rfl rfl rfl (.inl (Nat.lt_succ_self _)) hcell hrows (by rw [hbsz]; exact hpos) hN hT1 m5 (.inr rfl) (by simp) rfl rfl rfl (by simp) (fun B' hB' _ => Below.heap_alloc w.drew _ B' hB') (heap_alloc_new w.drew _) (free_zero _) (by rw [harr2, hl2]; exact hge2)
            (fun i' c' v hnot hv _ => by
              obtain ⟨cv, q1, q2⟩ := hcells i' c' v hv
              refine ⟨cv, ?_, q2.mono m1.ext (m1.here _)⟩
              have hlt := (List.getElem?_eq_some_iff.1 q1).1
              simp only [arr2]
              rw [Array.getElem?_append_left (by simp; omega), List.getElem?_toArray, List.getElem?_append_left hlt]; exact q1) (fun j v hj => by
              have hlt := (List.getElem?_eq_some_iff.1 hj).1
              simp only [arr2]
              rw [Array.getElem?_append_left (by simp [hnl]; omega), List.getElem?_toArray, List.getElem?_append_right (by omega), holdl, show b.elems.length * b.sz + (0 + j) - b.elems.length * b.sz = j by omega]
              simp only [news, List.getElem?_map, List.getElem?_range (show j < b.sz by omega), Option.map_some])
          refine Goes.does ⟨_, _, g2, goes_app_run ho hrun, r1, m1.ext.trans r2, ?_⟩
          exact hvr hge r3 rfl (by rw [r4, harr2]; exact Nat.le_refl _)
      · cases h
    · cases h
  · cases h

theorem appM_does {t tx e e' : TypeId} {x y : Operand} {it : TypeInfo} {zero : List AV} {fl : Bool} {base : Nat} {xa xx v : AV} {S' : St}
    (ho : o.op = .call { callee := .builtin .append, args := #[x, y], argTypes := #[t, tx] }) (ht : P.underlying t = some (.slice e)) (htx : P.underlying tx = some (.slice e')) (hit : P.info? e = some it) (hz : zeroOf P e = some zero) (hpos : 0 < it.size)
    (hW : WRel w0 M R S g w) (hx : VRel S g (stab w0 R) xa (a.eval x)) (hy : VRel S g (stab w0 R) xx (a.eval y)) (h : appM S base fl it.size it.bytes xa xx = some (v, S')) : Does P w0 M R S g a w o S' v := by
  unfold appM at h
  split at h
  · rename_i t1 tv
    split at h
    · rename_i f q
      split at h
      · split at h
        · rename_i S0 hn
          have hE := Ext.empty (g := g) hn
          refine Does.ext (appM2_does ho ht htx hit hz hpos (hW.newEmpty hn rfl) ?_ (hy.mono hE) h) hE
          rw [hx.nil_inv]
          exact vrel_newEmpty hn rfl rfl _
        · cases h
      · cases h
    · exact appM2_does ho ht htx hit hz hpos hW hx hy h
    · cases h
  · cases h
end
end Go.Ae
namespace Go.Ae
open Go.RowKit
set_option linter.unusedVariables false
set_option linter.unusedSimpArgs false
section
variable {P : Program} {w w' w0 : World} {M : Nat → Nat → Path → Option Nat} {R : Nat → Prop} {S S2 : St} {g g2 : G} {a : Act} {o : Oper}

theorem nav_flat {ys zs : List (List AV)} {p : Path} (h : ∀ i c v, cellAt ys i c = some v → v.scal = true) (hp : navE ys p = some zs) : p = [] ∧ zs = ys :=
  box_nav (fun i c fl zs e => by have := h i c _ e; simp [AV.scal] at this) hp
theorem cont_flat {lv s B : Nat} {b2 : Blk} {arr : Array Value} {ty : TypeId} {fz : Nat × Nat} (hrows : ∀ r ∈ b2.elems, r.length = b2.sz) (hpos : 0 < b2.sz) (hfl : ∀ i c v, cellAt b2.elems i c = some v → v.scal = true) (hB : g2.θ lv s [] = some B)
    (hh : w'.heap[B]? = some (.cells arr ty fz)) (hf : FreeS b2.sz fz arr.size) (hκ : arr.size = g2.κ B) (hsz : b2.elems.length * b2.sz ≤ arr.size)
    (hc : ∀ i c v, cellAt b2.elems i c = some v → ∃ cv, arr[i * b2.sz + c]? = some cv ∧ VRel S g (stab w0 R) v cv) : Cont (stab w0 R) S2 g2 w' lv s b2 [] b2.elems := by
  refine ⟨hrows, fun _ => hpos, ?_⟩
  rw [hB]
  refine ⟨arr, ty, fz, hh, hf, hκ, hsz, fun i c v hv => ?_⟩
  obtain ⟨cv, h1, h2⟩ := hc i c v hv
  exact ⟨cv, h1, scal_krel (hfl i c v hv) (scal_any (hfl i c v hv) h2 S2 g2 _)⟩
/-- In place, nothing forgotten. -/
theorem WRel.flatSame {lv s B : Nat} {b b2 : Blk} {arr arr' : Array Value} {ty ty' : TypeId} {fz fz' : Nat × Nat} (hW : WRel w0 M R S g w) (hb : S.blk lv s = some b) (hS2 : S2 = S.put lv s (some b2)) (hver : b2.ver = b.ver) (hsz0 : b2.sz = b.sz) (hlen : b.elems.length ≤ b2.elems.length)
    (hrows : ∀ r ∈ b2.elems, r.length = b2.sz) (hpos : 0 < b2.sz) (hfl : ∀ i c v, cellAt b2.elems i c = some v → v.scal = true) (hB : g.θ lv s [] = some B)
    (hh : w.heap[B]? = some (.cells arr ty fz)) (hh' : w'.heap[B]? = some (.cells arr' ty' fz')) (hf : FreeS b2.sz fz' arr'.size) (hsize : arr'.size = arr.size) (hsz : b2.elems.length * b2.sz ≤ arr'.size)
    (hoth : ∀ k, k ≠ B → w'.heap[k]? = w.heap[k]?) (hos : w'.os = w.os) (htape : w'.tape = w.tape) (hout : w'.output = w.output) (hws : w'.heap.size = w.heap.size)
    (hc : ∀ i c v, cellAt b2.elems i c = some v → ∃ cv, arr'[i * b2.sz + c]? = some cv ∧ VRel S g (stab w0 R) v cv) : WRel w0 M R S2 g w' ∧ Ext S g S2 g := by
  have hget := blk_get hb
  have hκ : arr.size = g.κ B := by
    have := (hW.cont lv s b [] b.elems hb rfl).2.2
    rw [hB] at this
    obtain ⟨arr0, ty0, fz0, a1, a2, a3, _⟩ := this
    rw [hh] at a1; cases a1; exact a3
  have hE : Ext S g S2 g := by
    refine ExtS.ext ?_
    intro lv' s' ob hob
    rw [hS2]
    by_cases hc : lv' = lv ∧ s' = s
    · obtain ⟨rfl, rfl⟩ := hc
      rw [hget] at hob; cases hob
      refine ⟨some b2, by rw [get_put hget]; simp, fun b' hb' => ?_⟩
      cases hb'
      refine ⟨b, rfl, by omega, fun _ => ⟨hsz0, fun p ys hp => ?_⟩⟩
      obtain ⟨rfl, rfl⟩ := nav_flat hfl hp
      exact ⟨b.elems, rfl, hlen, hsz0, rfl, fun B' _ => rfl⟩
    · exact ⟨ob, by rw [get_put hget, if_neg hc]; exact hob, fun b' hb' => ⟨b', hb', Nat.le_refl _, fun _ => ⟨rfl, fun p ys hp => ⟨ys, hp, Nat.le_refl _, rfl, rfl, fun _ _ => rfl⟩⟩⟩⟩
  refine ⟨?_, hE⟩
  refine { os := hos.trans hW.os, tape := htape.trans hW.tape, output := hout.trans hW.output, size := by rw [hws]; exact hW.size, keep := fun B' hB' hM => ?_, rng := fun lv' s' p B' h => by rw [hws]; exact hW.rng _ _ _ _ h,
           fresh := hW.fresh, ext := hW.ext, inj := hW.inj, cont := fun lv' s' b' p ys hb' hp => ?_ }
  · have hne : B' ≠ B := by
      rintro rfl
      cases lv with
      | zero => have := hW.fresh s [] B' hB; omega
      | succ m => rcases hW.ext m s [] B' hB with h | h
                  · exact hM _ _ _ h
                  · omega
    exact (hoth B' hne).trans (hW.keep B' hB' hM)
  · rw [hS2, blk_put hget] at hb'
    by_cases hcc : lv' = lv ∧ s' = s
    · rw [if_pos hcc] at hb'; cases hb'
      obtain ⟨rfl, rfl⟩ := hcc
      obtain ⟨rfl, rfl⟩ := nav_flat hfl hp
      exact cont_flat hrows hpos hfl hB hh' hf (hsize.trans hκ) hsz hc
    · rw [if_neg hcc] at hb'
      refine (hW.cont lv' s' b' p ys hb' hp).mono hE (fun q => rfl) fun B' hB' => ⟨hoth B' ?_, rfl⟩
      rintro rfl
      obtain ⟨h1, h2, _⟩ := hW.inj _ _ _ _ _ _ _ hB hB'
      exact hcc ⟨h1.symm, h2.symm⟩
theorem vrel_flat {lv s n cap : Nat} {b2 : Blk} {A : Option Addr} (hb2 : S2.blk lv s = some b2) (hle : n ≤ cap) (hn : n ≤ b2.elems.length)
    (hm : match g2.θ lv s [] with | some B => (cap = 0 ∨ A = some ⟨B, 0, none⟩) ∧ cap * b2.sz ≤ g2.κ B | none => A = none ∧ cap = 0) : VRel S2 g2 (stab w0 R) (.sl lv s b2.ver [] 0 n) (.slice A n cap) := by
  refine .sl _ _ _ _ _ _ _ ⟨some b2, blk_get hb2, fun b' h => by cases h; exact Nat.le_refl _⟩ ⟨_, _, _, rfl⟩ fun b' zs hat' => ?_
  obtain ⟨h1, h2, h3⟩ := at_blk hat'
  rw [hb2] at h1; cases h1
  simp only [navE, Option.some.injEq] at h3
  subst h3
  refine ⟨A, cap, rfl, hle, by omega, fun _ => ?_⟩
  cases hB : g2.θ lv s [] with
  | none => rw [hB] at hm; exact hm
  | some B =>
    rw [hB] at hm
    simp only [Nat.zero_mul, Nat.zero_add]
    exact ⟨hm.1, fun _ => hm.2⟩
/-- What was there is forgotten: in place, or in a new row. -/
theorem WRel.flatNew {lv s n cap : Nat} {b b2 : Blk} {A : Option Addr} (hW : WRel w0 M R S g w) (hb : S.blk lv s = some b) (hS2 : S2 = S.put lv s (some b2)) (hver : b.ver < b2.ver) (hrows : ∀ r ∈ b2.elems, r.length = b2.sz) (hpos : 0 < b2.sz) (hfl : ∀ i c v, cellAt b2.elems i c = some v → v.scal = true)
    (hle : n ≤ cap) (hn : n ≤ b2.elems.length) (hos : w'.os = w.os) (htape : w'.tape = w.tape) (hout : w'.output = w.output)
    (hw : (∃ B arr' ty' fz', g.θ lv s [] = some B ∧ w'.heap.size = w.heap.size ∧ (cap = 0 ∨ A = some ⟨B, 0, none⟩) ∧ (∀ k, k ≠ B → w'.heap[k]? = w.heap[k]?) ∧ w'.heap[B]? = some (.cells arr' ty' fz') ∧ FreeS b2.sz fz' arr'.size ∧ arr'.size = g.κ B ∧ cap * b2.sz ≤ arr'.size ∧ b2.elems.length * b2.sz ≤ arr'.size ∧
        ∀ i c v, cellAt b2.elems i c = some v → ∃ cv, arr'[i * b2.sz + c]? = some cv ∧ VRel S g (stab w0 R) v cv) ∨
      (∃ arr' ty' fz', w.heap.size < w'.heap.size ∧ A = some ⟨w.heap.size, 0, none⟩ ∧ (∀ k, k < w.heap.size → w'.heap[k]? = w.heap[k]?) ∧ w'.heap[w.heap.size]? = some (.cells arr' ty' fz') ∧ FreeS b2.sz fz' arr'.size ∧ cap * b2.sz ≤ arr'.size ∧ b2.elems.length * b2.sz ≤ arr'.size ∧
        ∀ i c v, cellAt b2.elems i c = some v → ∃ cv, arr'[i * b2.sz + c]? = some cv ∧ VRel S g (stab w0 R) v cv) ∨ (g.θ lv s [] = none ∧ b2.elems = [] ∧ A = none ∧ cap = 0 ∧ w' = w)) :
    ∃ g2, WRel w0 M R S2 g2 w' ∧ Ext S g S2 g2 ∧ VRel S2 g2 (stab w0 R) (.sl lv s b2.ver [] 0 n) (.slice A n cap) := by
  have hget := blk_get hb
  have hb2 : S2.blk lv s = some b2 := by rw [hS2, blk_put hget]; simp
  rcases hw with ⟨B, arr', ty', fz', hB, hsz, hA, hoth, hh, hf, hκ, hcap, hel, hc⟩ | ⟨arr', ty', fz', hsz, rfl, hoth, hh, hf, hcap, hel, hc⟩ | ⟨hB, he, rfl, rfl, rfl⟩
  · obtain ⟨k1, k2⟩ := hW.change (w' := w') (S2 := S2) (g2 := g) (T := fun B' => B' = B) hb hS2 hver (fun _ _ _ _ => rfl) (fun p B h => .inl h) (fun _ _ _ => rfl) (fun B' h => ⟨[], by rw [hB, h]⟩) hos htape hout (by omega) (fun k _ h => hoth k h)
      (fun hE p zs hp => by
        obtain ⟨rfl, rfl⟩ := nav_flat hfl hp
        exact cont_flat hrows hpos hfl hB hh hf hκ hel hc)
    exact ⟨g, k1, k2, vrel_flat hb2 hle hn (by rw [hB]; exact ⟨hA, by omega⟩)⟩
  · let g2 : G := { θ := fun lv' s' p => if lv' = lv ∧ s' = s ∧ p = [] then some w.heap.size else g.θ lv' s' p, κ := fun B => if B = w.heap.size then arr'.size else g.κ B }
    have hB2 : g2.θ lv s [] = some w.heap.size := by simp [g2]
    have hκ2 : g2.κ w.heap.size = arr'.size := by simp [g2]
    obtain ⟨k1, k2⟩ := hW.change (w' := w') (S2 := S2) (g2 := g2) (T := fun _ => False) hb hS2 hver (fun lv' s' p h => by simp only [g2]; rw [if_neg fun e => h ⟨e.1, e.2.1⟩]) (fun p B h => by
        simp only [g2] at h
        split at h
        · rename_i e
          cases h
          exact .inr ⟨e.2.2, rfl, hsz⟩
        · exact .inl h) (fun B hB _ => by simp only [g2]; rw [if_neg (by omega)]) (fun _ h => h.elim) hos htape hout (by omega) (fun k hk _ => hoth k hk)
      (fun hE p zs hp => by
        obtain ⟨rfl, rfl⟩ := nav_flat hfl hp
        exact cont_flat hrows hpos hfl hB2 hh hf hκ2.symm hel hc)
    exact ⟨g2, k1, k2, vrel_flat hb2 hle hn (by rw [hB2]; exact ⟨.inr rfl, by rw [hκ2]; exact hcap⟩)⟩
  · obtain ⟨k1, k2⟩ := hW.change (w' := w') (S2 := S2) (g2 := g) (T := fun _ => False) hb hS2 hver (fun _ _ _ _ => rfl) (fun p B h => .inl h) (fun _ _ _ => rfl) (fun _ h => h.elim) rfl rfl rfl (Nat.le_refl _) (fun _ _ _ => rfl)
      (fun hE p zs hp => by
        obtain ⟨rfl, rfl⟩ := nav_flat hfl hp
        refine ⟨hrows, fun h => absurd he h, ?_⟩
        rw [hB]; exact he)
    exact ⟨g, k1, k2, vrel_flat hb2 hle hn (by rw [hB]; exact ⟨rfl, rfl⟩)⟩
/-- What a slice of a flat row is in memory. -/
theorem flat_row {lv s ver len : Nat} {b : Blk} {xs : List (List AV)} {cv : Value} (hW : WRel w0 M R S g w) (hv : VRel S g (stab w0 R) (.sl lv s ver [] 0 len) cv) (hat : S.at lv s ver [] = some (b, xs)) (hbox : b.box = false) (hfl : b.fl = true) :
    ∃ A cap, cv = .slice A len cap ∧ len ≤ cap ∧ len ≤ xs.length ∧ (∀ r ∈ xs, r.length = b.sz) ∧ (∀ i c v, cellAt xs i c = some v → v.scal = true ∧ i < xs.length ∧ c < b.sz) ∧
      ((g.θ lv s [] = none ∧ xs = [] ∧ A = none ∧ cap = 0) ∨
       ∃ B arr ty fz, g.θ lv s [] = some B ∧ w.heap[B]? = some (.cells arr ty fz) ∧ FreeS b.sz fz arr.size ∧ arr.size = g.κ B ∧ (cap = 0 ∨ A = some ⟨B, 0, none⟩) ∧ cap * b.sz ≤ arr.size ∧ xs.length * b.sz ≤ arr.size ∧
        ∀ i c v, cellAt xs i c = some v → ∃ cv, arr[i * b.sz + c]? = some cv ∧ VRel S g (stab w0 R) v cv) := by
  obtain ⟨hb, hver, hnav⟩ := at_blk hat
  have hflat := flat_scal hW hb hbox hfl hnav
  simp only [navE, Option.some.injEq] at hnav
  subst hnav
  obtain ⟨A, cap, hcx, d1, d2, d3⟩ := hv.sl_inv.2 _ _ hat
  replace d3 := d3 (.inl rfl)
  obtain ⟨c1, c2, c3⟩ := hW.cont lv s b [] b.elems hb rfl
  have hcz : csz b.sz [] b.elems = b.sz := rfl
  rw [hcz] at c1 c2 c3
  have hin : ∀ i c v, cellAt b.elems i c = some v → v.scal = true ∧ i < b.elems.length ∧ c < b.sz := fun i c v h => by
    unfold cellAt at h
    split at h
    · rename_i r hr
      exact ⟨hflat r (List.mem_of_getElem? hr) v (List.mem_of_getElem? h), (List.getElem?_eq_some_iff.1 hr).1, by rw [← c1 r (List.mem_of_getElem? hr)]; exact (List.getElem?_eq_some_iff.1 h).1⟩
    · cases h
  refine ⟨A, cap, hcx, d1, by omega, c1, hin, ?_⟩
  cases hB : g.θ lv s [] with
  | none =>
    rw [hB] at d3 c3
    exact .inl ⟨rfl, c3, d3.1, d3.2⟩
  | some B =>
    rw [hB] at d3 c3
    simp only [Nat.zero_mul, Nat.zero_add] at d3
    obtain ⟨arr, ty, fz, a1, a2, a3, a4, a5⟩ := c3
    refine .inr ⟨B, arr, ty, fz, rfl, a1, a2, a3, d3.1, by rw [a3]; exact d3.2 trivial, a4, fun i c v h => ?_⟩
    obtain ⟨cv, q1, q2⟩ := a5 i c v h
    refine ⟨cv, q1, ?_⟩
    have hs := (hin i c v h).1
    have : VRel S g (stab w0 R) (v.mapR (upR lv)) cv := by cases v <;> first | exact q2.1 | simp [AV.scal] at hs
    rwa [scal_mapR hs] at this
theorem cell_lt {xs : List (List AV)} {sz n : Nat} (h : ∀ r ∈ xs, r.length = sz) {i c : Nat} {v : AV} (hc : cellAt (xs.take n) i c = some v) : i < n ∧ i * sz + c < n * sz ∧ cellAt xs i c = some v := by
  unfold cellAt at hc ⊢
  split at hc
  · rename_i r hr
    rw [List.getElem?_take] at hr
    split at hr
    · rename_i hin
      have hcl := (List.getElem?_eq_some_iff.1 hc).1
      rw [h r (List.mem_of_getElem? hr)] at hcl
      refine ⟨hin, ?_, by rw [hr]; exact hc⟩
      have := Nat.mul_le_mul_right sz (show i + 1 ≤ n from hin)
      rw [Nat.add_mul, Nat.one_mul] at this
      omega
    · cases hr
  · cases hc
theorem appC_does {t tx e e' : TypeId} {x y : Operand} {xa xx : X} {it : TypeInfo} {zero : List AV} {fl : Bool} {v : AV} {S' : St}
    (ho : o.op = .call { callee := .builtin .append, args := #[x, y], argTypes := #[t, tx] }) (ht : P.underlying t = some (.slice e)) (htx : P.underlying tx = some (.slice e')) (hit : P.info? e = some it) (hz : zeroOf P e = some zero) (hpos : 0 < it.size)
    (hR : RdW w0 M R) (hW : WRel w0 M R S g w) (hx : VRel S g (stab w0 R) (evalX S xa) (a.eval x)) (hy : VRel S g (stab w0 R) (evalX S xx) (a.eval y)) (h : appC S fl it.size it.bytes (evalX S xa) (evalX S xx) = some (v, S')) : Does P w0 M R S g a w o S' v := by
  obtain ⟨it', z, hit', hzz, hz1, hz2⟩ := zeroOf_info hz
  rw [hit] at hit'; cases hit'
  unfold appC at h
  split at h
  · rename_i ys hs
    split at h
    · rename_i hall
      have hrows : ∀ r ∈ ys, r.length = it.size := fun r hr => by have := List.all_eq_true.1 hall r hr; simpa using this
      obtain ⟨A2, cap2, news, hcy, hsrc, hnews⟩ := source_src (P := P) htx hR hW hy hs hrows hpos
      have hnl := hsrc.newsLen
      split at h
      · rename_i lv s ver len hxa
        rw [hxa] at hx
        split at h
        · rename_i b xs hat
          split at h
          · rename_i hc
            obtain ⟨hbox, hbfl, hbsz, hlen, hb1, hb2⟩ := hc
            cases h
            obtain ⟨hb, hver, hnav⟩ := at_blk hat
            obtain ⟨A, cap, hcx, d1, _, c1, hin, hrow⟩ := flat_row hW hx hat hbox hbfl
            rw [← hbsz] at hrows hnl hnews hsrc hpos
            let b2 : Blk := { b with ver := b.ver + 1, elems := xs.take len ++ ys }
            have hl2 : ∀ r ∈ xs.take len ++ ys, r.length = b.sz := fun r hr => by
              rcases List.mem_append.1 hr with hr | hr
              · exact c1 r (List.mem_of_mem_take hr)
              · exact hrows r hr
            have htl : (xs.take len).length = len := by simp; omega
            have hl3 : (xs.take len ++ ys).length = len + ys.length := by rw [List.length_append, htl]
            have hfl2 : ∀ i c v, cellAt (xs.take len ++ ys) i c = some v → v.scal = true := fun i c v h => by
              rcases cellAt_append h with ⟨_, h⟩ | ⟨_, h⟩
              · exact (hin i c v (cell_lt c1 h).2.2).1
              · exact (hnews _ _ _ h).1
            have done : ∀ {A' : Option Addr} {cap' : Nat} {w' : World}, (Builtin.append_ #[t, tx] o.type #[a.eval x, a.eval y]).run P w = .ok (.slice A' (len + ys.length) cap') w' → len + ys.length ≤ cap' → w'.os = w.os → w'.tape = w.tape → w'.output = w.output → _ → Does P w0 M R S g a w o (S.put lv s (some b2)) (.sl lv s (ver + 1) [] 0 (len + ys.length)) :=
              fun {A' cap' w'} hrun hle k1 k2 k3 hw => by
                obtain ⟨g2, q1, q2, q3⟩ := hW.flatNew (S2 := S.put lv s (some b2)) (w' := w') (n := len + ys.length) (cap := cap') (A := A') hb rfl (by show b.ver < b.ver + 1; omega) hl2 hpos hfl2 hle (by show _ ≤ (xs.take len ++ ys).length; omega) k1 k2 k3 hw
                have hvv : b2.ver = ver + 1 := by show b.ver + 1 = ver + 1; omega
                rw [hvv] at q3
                exact Goes.does ⟨_, _, g2, goes_app_run ho hrun, q1, q2, q3⟩
            by_cases hroom : len + ys.length ≤ cap
            · by_cases h0 : ys = []
              · subst h0
                have hnn : news = [] := by simpa using hnl
                subst hnn
                rw [hbsz] at hsrc
                have hrun0 := run_append_nothing (P := P) w t tx o.type e it ht hit A len cap d1 (a.eval y) hsrc
                have hrun : (Builtin.append_ #[t, tx] o.type #[a.eval x, a.eval y]).run P w = .ok (.slice A (len + ([] : List (List AV)).length) cap) w := by rw [hcx]; exact hrun0
                refine done hrun hroom rfl rfl rfl ?_
                rcases hrow with ⟨q1, q2, q3, q4⟩ | ⟨B, arr, ty, fz, q1, q2, q3, q4, q5, q6, q7, q8⟩
                · exact .inr (.inr ⟨q1, by show xs.take len ++ [] = []; rw [q2]; simp, q3, q4, rfl⟩)
                · refine .inl ⟨B, arr, ty, fz, q1, rfl, q5, fun _ _ => rfl, q2, q3, q4, q6, ?_, fun i c v hv => ?_⟩
                  · show (xs.take len ++ []).length * b.sz ≤ _
                    rw [hl3]
                    exact Nat.le_trans (Nat.mul_le_mul_right _ hroom) q6
                  · rcases cellAt_append hv with ⟨_, hv⟩ | ⟨_, hv⟩
                    · exact q8 i c v (cell_lt c1 hv).2.2
                    · simp [cellAt] at hv
              · have hn0 : 0 < ys.length := List.length_pos_iff.2 h0
                rcases hrow with ⟨q1, q2, q3, q4⟩ | ⟨B, arr, ty, fz, q1, q2, q3, q4, q5, q6, q7, q8⟩
                · omega
                have hA : A = some ⟨B, 0, none⟩ := by rcases q5 with h | h <;> first | omega | exact h
                have hmul : (len + ys.length) * b.sz ≤ cap * b.sz := Nat.mul_le_mul_right _ hroom
                have hmul2 : (len + ys.length) * b.sz = len * b.sz + ys.length * b.sz := Nat.add_mul _ _ _
                rw [hbsz] at hsrc
                have hrun := run_append_room_src (P := P) w t tx o.type e it ht hit B 0 len cap (a.eval y) ys.length news hsrc hroom (fun j hj => by
                    rw [blk_cell' q2, ← hbsz, Array.getElem?_eq_getElem (by omega)]; rfl) (fun j hj => by
                    simp only [World.frozen?, q2]; exact q3.1 _ (by rw [← hbsz]; omega))
                rw [← hA, ← hcx, ← hbsz, Nat.zero_add] at hrun
                obtain ⟨arr', e1, e2, e3, e4, e5, e6, e7, e8⟩ := setCells_spec B news (len * b.sz) w arr ty fz q2 (by omega)
                refine done hrun hroom e6 e7 e8 (.inl ⟨B, arr', ty, fz, q1, e5, .inr hA, e4, e1, by rw [e2]; exact q3, by rw [e2]; exact q4, by rw [e2]; exact q6, ?_, fun i c v hv => ?_⟩)
                · show (xs.take len ++ ys).length * b.sz ≤ _
                  rw [hl3, e2]; omega
                · show ∃ cv, arr'[i * b.sz + c]? = some cv ∧ _
                  rcases cellAt_append hv with ⟨_, hv⟩ | ⟨hi, hv⟩
                  · obtain ⟨r1, r2, r3⟩ := cell_lt c1 hv
                    obtain ⟨cv, m1, m2⟩ := q8 i c v r3
                    exact ⟨cv, by rw [e3, if_neg (by omega)]; exact m1, m2⟩
                  · obtain ⟨_, cv, m1, m2⟩ := hnews _ _ _ hv
                    rw [htl] at m1 hi
                    refine ⟨cv, ?_, m2⟩
                    have hlt := (List.getElem?_eq_some_iff.1 m1).1
                    have e : i * b.sz + c = len * b.sz + ((i - len) * b.sz + c) := by
                      rw [← Nat.add_assoc, ← Nat.add_mul]; congr 2; omega
                    rw [e, e3, if_pos (by omega), Nat.add_sub_cancel_left]; exact m1
            · have hn0 : 0 < ys.length := by omega
              obtain ⟨olds, hold, holdl, hcells⟩ : ∃ olds : List Value, (Builtin.firstCells it.size len (.slice A len cap)).run P w.drew = .ok olds.toArray w.drew ∧ olds.length = len * b.sz ∧
                  ∀ i c u, cellAt (xs.take len) i c = some u → ∃ cv, olds[i * b.sz + c]? = some cv ∧ VRel S g (stab w0 R) u cv := by
                rcases hrow with ⟨q1, q2, q3, q4⟩ | ⟨B, arr, ty, fz, q1, q2, q3, q4, q5, q6, q7, q8⟩
                · subst q2; subst q3
                  have : len = 0 := by simpa using hlen
                  subst this
                  exact ⟨[], run_firstCells_none w.drew _ _ _ _, by simp, fun i c u hu => by simp [cellAt] at hu⟩
                · have hl4 : len * b.sz ≤ arr.size := Nat.le_trans (Nat.mul_le_mul_right _ d1) q6
                  refine ⟨arr.toList.take (len * b.sz), ?_, by simp; omega, fun i c u hu => ?_⟩
                  · cases A with
                    | none =>
                      have : cap = 0 := by rcases q5 with h | h <;> first | exact h | cases h
                      have hl0 : len = 0 := by omega
                      rw [hl0]; simp [Builtin.firstCells]
                    | some ad =>
                      refine run_firstCells_some w.drew it.size len ad len cap _ (by simp; rw [← hbsz]; omega) fun j u hj => ?_
                      have hlt : j < len * b.sz := by have := (List.getElem?_eq_some_iff.1 hj).1; simp at this; omega
                      have hl0 : len ≠ 0 := fun h => by rw [h] at hlt; omega
                      have hA : ad = ⟨B, 0, none⟩ := by rcases q5 with h | h <;> first | omega | (cases h; rfl)
                      rw [hA, Addr.add_lit]
                      rw [List.getElem?_take, if_pos hlt, Array.getElem?_toList] at hj
                      rw [show w.drew.cell? _ = w.cell? ⟨B, 0 + j, none⟩ from rfl, blk_cell' q2, Nat.zero_add]; exact hj
                  · obtain ⟨r1, r2, r3⟩ := cell_lt c1 hu
                    obtain ⟨cv, m1, m2⟩ := q8 i c u r3
                    exact ⟨cv, by rw [List.getElem?_take, if_pos r2, Array.getElem?_toList]; exact m1, m2⟩
              rw [hbsz] at hsrc
              have hrun := run_append_grow_src (P := P) w t tx o.type e it z ht hit hzz A len cap olds hold (a.eval y) ys.length news hsrc (by omega) (by omega) (growslice_fits (by omega) hb1)
              rw [← hcx] at hrun
              have hge := grownCap_ge w (len + ys.length) cap e
              generalize hgc : grownCap w (len + ys.length) cap e = gc at hrun hge
              obtain ⟨arr2, harr⟩ : ∃ arr2 : Array Value, arr2 = (olds ++ news).toArray ++ Builtin.zeroCells z.cells (gc - (len + ys.length)) := ⟨_, rfl⟩
              rw [← harr] at hrun
              have harr2 : arr2.size = gc * b.sz := by
                rw [harr]
                simp only [Array.size_append, size_zeroCells, List.size_toArray, List.length_append, holdl, hnl, hz1, hz2, ← hbsz]
                rw [← Nat.add_mul, ← Nat.add_mul]; congr 1; omega
              have hge2 : (len + ys.length) * b.sz ≤ gc * b.sz := Nat.mul_le_mul_right _ hge
              refine done hrun hge rfl rfl rfl (.inr (.inl ⟨arr2, e, (0, 0), by simp, rfl, fun k hk => Below.heap_alloc w.drew _ k hk, heap_alloc_new w.drew _, free_zero _, by show gc * b.sz ≤ _; omega, ?_, fun i c v hv => ?_⟩))
              · show (xs.take len ++ ys).length * b.sz ≤ _
                rw [hl3]; omega
              · show ∃ cv, arr2[i * b.sz + c]? = some cv ∧ _
                rcases cellAt_append hv with ⟨_, hv⟩ | ⟨hi, hv⟩
                · obtain ⟨cv, m1, m2⟩ := hcells i c v hv
                  have hlt := (List.getElem?_eq_some_iff.1 m1).1
                  refine ⟨cv, ?_, m2⟩
                  rw [harr, Array.getElem?_append_left (by simp; omega), List.getElem?_toArray, List.getElem?_append_left hlt]; exact m1
                · obtain ⟨_, cv, m1, m2⟩ := hnews _ _ _ hv
                  rw [htl] at m1 hi
                  have hlt := (List.getElem?_eq_some_iff.1 m1).1
                  refine ⟨cv, ?_, m2⟩
                  have e : i * b.sz + c = len * b.sz + ((i - len) * b.sz + c) := by
                    rw [← Nat.add_assoc, ← Nat.add_mul]; congr 2; omega
                  rw [harr, e, Array.getElem?_append_left (by simp; omega), List.getElem?_toArray, List.getElem?_append_right (by omega), holdl, Nat.add_sub_cancel_left]; exact m1
          · cases h
        · cases h
      · cases h
    · cases h
  · cases h
end
end Go.Ae
namespace Go.Ae
open Go.RowKit
set_option linter.unusedVariables false
set_option linter.unusedSimpArgs false
section
variable {P : Program} {w w' w0 : World} {M : Nat → Nat → Path → Option Nat} {R : Nat → Prop} {S S2 : St} {g g2 : G} {a : Act} {o : Oper}
theorem goes_clear_run {x : Operand} {t : TypeId} {w' : World} (ho : o.op = .call { callee := .builtin .clear, args := #[x], argTypes := #[t] })
    (h : (Builtin.clear_ #[t] o.type #[a.eval x]).run P w = .ok (.tuple #[]) w') : (execOp a.eval o).run P w = .ok (.value (.tuple #[])) w' := by
  unfold execOp
  simp [ho, resolve, invoke, builtin, h]
theorem clr_does {O : Oracle} {md : Nat → Mode} {base : Nat} {t e : TypeId} {x : Operand} {xa : X} {zero : List AV} {v : AV} {S' : St}
    (ho : o.op = .call { callee := .builtin .clear, args := #[x], argTypes := #[t] }) (ht : P.underlying t = some (.slice e)) (hz : zeroOf P e = some zero) (hpos : 0 < zero.length)
    (hW : WRel w0 M R S g w) (hx : VRel S g (stab w0 R) (evalX S xa) (a.eval x)) (h : evalW O md S base (.clr zero.length zero xa) = some (v, S')) : Does P w0 M R S g a w o S' v := by
  unfold zeroOf at hz
  split at hz
  case h_2 => cases hz
  rename_i zs it hz1 hit
  split at hz
  case h_2 => cases hz
  rename_i z hzz
  split at hz
  case isFalse => cases hz
  rename_i hok
  cases hz
  simp only [Bool.and_eq_true] at hok
  have hsize : zero.length = it.size := by simpa using hok.2
  obtain ⟨z1, z2⟩ := zeros_rel (S := S) (g := g) (cell := stab w0 R) hok.1
  have hzl : z.cells.size = zero.length := by rw [z1]; simp
  simp only [evalW] at h
  split at h
  · rename_i lv s ver off len hxa
    rw [hxa] at hx
    split at h
    · rename_i b xs hat
      split at h
      · rename_i hc
        obtain ⟨hbox, hbfl, hbsz, hle, _, hzsc⟩ := hc
        cases h
        obtain ⟨hb, hver, hnav⟩ := at_blk hat
        have hflat := flat_scal hW hb hbox hbfl hnav
        simp only [navE, Option.some.injEq] at hnav
        subst hnav
        obtain ⟨A, cap, hcx, d1, d2, d3⟩ := hx.sl_inv.2 _ _ hat
        replace d3 := d3 (.inl rfl)
        obtain ⟨c1, c2, c3⟩ := hW.cont lv s b [] b.elems hb rfl
        have hcz : csz b.sz [] b.elems = b.sz := rfl
        rw [hcz] at c1 c2 c3 d3
        have hE2 : ∀ n, n = 0 → b.elems.take off ++ List.replicate n zero ++ b.elems.drop (off + n) = b.elems := fun n hn => by subst hn; simp
        by_cases h0 : len = 0
        · subst h0
          have hrun : (Builtin.clear_ #[t] o.type #[a.eval x]).run P w = .ok (.tuple #[]) w := by
            rw [hcx]; cases A <;> simp [Builtin.clear_, run_underlying ht]
          rw [show (some { b with elems := b.elems.take off ++ List.replicate 0 zero ++ b.elems.drop (off + 0) } : Option Blk) = some b by rw [hE2 0 rfl]]
          have hid : ∀ lv', ((S.put lv s (some b)).heap lv').get = (S.heap lv').get := fun lv' => by
            funext s'
            rw [get_put (blk_get hb)]
            split
            · rename_i e; obtain ⟨rfl, rfl⟩ := e; exact (blk_get hb).symm
            · rfl
          have hE : Ext S g (S.put lv s (some b)) g := ExtS.ext fun lv' s' ob hob => ⟨ob, by rw [hid]; exact hob, fun b' hb' => ⟨b', hb', Nat.le_refl _, fun _ => ⟨rfl, fun p ys h => ⟨ys, h, Nat.le_refl _, rfl, rfl, fun _ _ => rfl⟩⟩⟩⟩
          have hW2 : WRel w0 M R (S.put lv s (some b)) g w := { hW with cont := fun lv' s' b' p ys hb' hn => (hW.cont lv' s' b' p ys (by unfold St.blk at hb' ⊢; rw [← hid]; exact hb') hn).mono hE (fun _ => rfl) (fun B hB => ⟨rfl, rfl⟩) }
          exact Goes.does ⟨_, _, g, goes_clear_run ho hrun, hW2, hE, .undef _⟩
        · cases hB : g.θ lv s [] with
          | none => rw [hB] at d3; omega
          | some B =>
            rw [hB] at d3 c3
            obtain ⟨arr, ty, fz, a1, a2, a3, a4, a5⟩ := c3
            have hA : A = some ⟨B, off * b.sz, none⟩ := by rcases d3.1 with h | h <;> first | omega | exact h
            have hmul : (off + len) * b.sz ≤ b.elems.length * b.sz := Nat.mul_le_mul_right _ hle
            have hmul2 : (off + len) * b.sz = off * b.sz + len * b.sz := Nat.add_mul _ _ _
            obtain ⟨us, hus⟩ : ∃ us, us = (Builtin.zeroCells z.cells len).toList := ⟨_, rfl⟩
            have hul : us.length = len * b.sz := by rw [hus]; simp [size_zeroCells, hzl, hbsz]
            have hug : ∀ i c, i < len → c < b.sz → us[i * b.sz + c]? = z.cells[c]? := fun i c hi hcc => by
              have hg := rep_get z.cells len (by omega) i c (by omega) (by omega)
              rw [hus, Array.getElem?_toList]
              rw [show i * b.sz + c = i * z.cells.size + c by rw [hzl, hbsz]]
              unfold Builtin.zeroCells
              have hlt : c < z.cells.size := by omega
              rw [Array.getElem?_eq_getElem hlt]
              simpa [hlt] using hg
            have hone : ∀ u ∈ us, u.oneCell' = true := fun u hu => by
              obtain ⟨j, hj⟩ := List.getElem?_of_mem hu
              have hjl : j < len * b.sz := by have := (List.getElem?_eq_some_iff.1 hj).1; omega
              have hbp : 0 < b.sz := by omega
              have hd : j / b.sz < len := Nat.div_lt_of_lt_mul (by rwa [Nat.mul_comm] at hjl)
              have hm : j % b.sz < b.sz := Nat.mod_lt _ hbp
              have e : j / b.sz * b.sz + j % b.sz = j := by rw [Nat.mul_comm]; exact Nat.div_add_mod j b.sz
              have := hug _ _ hd hm
              rw [e, hj] at this
              obtain ⟨zv, hzv⟩ : ∃ zv, zero[j % b.sz]? = some zv := ⟨_, List.getElem?_eq_getElem (by omega)⟩
              obtain ⟨cv, k1, k2⟩ := z2 _ _ hzv
              rw [Array.getElem?_toList, ← this] at k1
              cases k1
              have hs := List.all_eq_true.1 hzsc _ (List.mem_of_getElem? hzv)
              exact one_cell (by cases zv <;> first | rfl | simp [AV.scal] at hs) k2
            obtain ⟨arr', e1, e2, e3, e4, e5, e6, e7, e8⟩ := setCells_spec B us (off * b.sz) w arr ty fz a1 (by omega)
            have hst := run_storeCells_cells (P := P) B (off * b.sz) us 0 w (fun j hj => by rw [Nat.add_zero, blk_cell' a1, Array.getElem?_eq_getElem (by omega)]; rfl) (fun j hj => by simp only [World.frozen?, a1]; exact a2.1 _ (by omega)) hone
            have hrun : (Builtin.clear_ #[t] o.type #[a.eval x]).run P w = .ok (.tuple #[]) (w.setCells B (off * b.sz) us) := by
              rw [hcx, hA]
              obtain ⟨m, rfl⟩ : ∃ m, len = m + 1 := ⟨len - 1, by omega⟩
              have hzv : ∀ w, (zeroValue e).run P w = .ok z w := fun w => by simp [zeroValue, typeInfo, hit, hzz]
              rw [hus] at hst ⊢
              simp only [Nat.add_zero] at hst
              simp [Builtin.clear_, run_underlying ht, hzv, hst]
            have hl1 : (b.elems.take off).length = off := by simp; omega
            have hcell : ∀ i c v, cellAt (b.elems.take off ++ List.replicate len zero ++ b.elems.drop (off + len)) i c = some v → (off ≤ i ∧ i < off + len ∧ zero[c]? = some v) ∨ (¬ (off ≤ i ∧ i < off + len) ∧ cellAt b.elems i c = some v) := fun i c v hv => by
              rcases cellAt_append hv with ⟨_, hv⟩ | ⟨hi, hv⟩
              · rcases cellAt_append hv with ⟨_, hv⟩ | ⟨hi, hv⟩
                · obtain ⟨r1, r2, r3⟩ := cell_lt c1 hv
                  exact .inr ⟨by omega, r3⟩
                · unfold cellAt at hv
                  rw [List.getElem?_replicate] at hv
                  split at hv
                  · rename_i r hr
                    split at hr
                    · cases hr; exact .inl ⟨by omega, by omega, hv⟩
                    · cases hr
                  · cases hv
              · simp only [List.length_append, hl1, List.length_replicate] at hi hv
                unfold cellAt at hv
                rw [List.getElem?_drop] at hv
                have e : off + len + (i - (off + len)) = i := by omega
                rw [e] at hv
                exact .inr ⟨by omega, hv⟩
            have hrows2 : ∀ r ∈ b.elems.take off ++ List.replicate len zero ++ b.elems.drop (off + len), r.length = b.sz := fun r hr => by
              simp only [List.mem_append] at hr
              rcases hr with (hr | hr) | hr
              · exact c1 r (List.mem_of_mem_take hr)
              · rw [List.eq_of_mem_replicate hr]; exact hbsz.symm
              · exact c1 r (List.mem_of_mem_drop hr)
            have hlen2 : (b.elems.take off ++ List.replicate len zero ++ b.elems.drop (off + len)).length = b.elems.length := by
              simp only [List.length_append, hl1, List.length_replicate, List.length_drop]; omega
            have hold : ∀ i c v, cellAt b.elems i c = some v → v.scal = true ∧ c < b.sz := fun i c v h => by
              unfold cellAt at h
              split at h
              · rename_i r hr
                exact ⟨hflat r (List.mem_of_getElem? hr) v (List.mem_of_getElem? h), by rw [← c1 r (List.mem_of_getElem? hr)]; exact (List.getElem?_eq_some_iff.1 h).1⟩
              · cases h
            have key := hW.flatSame (S2 := S.put lv s (some { b with elems := b.elems.take off ++ List.replicate len zero ++ b.elems.drop (off + len) })) (w' := w.setCells B (off * b.sz) us) (b2 := { b with elems := b.elems.take off ++ List.replicate len zero ++ b.elems.drop (off + len) }) (arr' := arr') (ty' := ty) (fz' := fz) hb rfl rfl rfl
              (by show b.elems.length ≤ (b.elems.take off ++ List.replicate len zero ++ b.elems.drop (off + len)).length; omega) hrows2 (by show 0 < b.sz; omega) (fun i c v hv => by
                rcases hcell i c v hv with ⟨_, _, hzc⟩ | ⟨_, hv⟩
                · exact List.all_eq_true.1 hzsc _ (List.mem_of_getElem? hzc)
                · exact (hold i c v hv).1) hB a1 e1 (by rw [e2]; exact a2) e2 (by show (b.elems.take off ++ List.replicate len zero ++ b.elems.drop (off + len)).length * b.sz ≤ _; rw [hlen2, e2]; exact a4)
              (fun k hk => e4 k hk) e6 e7 e8 e5 (fun i c v hv => by
                show ∃ cv, arr'[i * b.sz + c]? = some cv ∧ _
                rcases hcell i c v hv with ⟨r1, r2, hzc⟩ | ⟨hnot, hv⟩
                · obtain ⟨cv, k1, k2⟩ := z2 _ _ hzc
                  have hcl : c < b.sz := by have := (List.getElem?_eq_some_iff.1 hzc).1; omega
                  refine ⟨cv, ?_, k2⟩
                  have hm1 := Nat.mul_le_mul_right b.sz (show i + 1 ≤ off + len by omega)
                  have hm2 := Nat.mul_le_mul_right b.sz r1
                  rw [Nat.add_mul, Nat.one_mul] at hm1
                  rw [e3, if_pos (by omega)]
                  have e : i * b.sz + c - off * b.sz = (i - off) * b.sz + c := by rw [Nat.sub_mul]; omega
                  rw [e, hug (i - off) c (by omega) hcl]
                  rw [Array.getElem?_toList] at k1; exact k1
                · obtain ⟨cv, k1, k2⟩ := a5 i c v hv
                  obtain ⟨hs, hcl⟩ := hold i c v hv
                  refine ⟨cv, ?_, ?_⟩
                  · rw [e3, if_neg ?_]
                    · exact k1
                    · rintro ⟨q5, q6⟩
                      rcases Nat.lt_or_ge i off with hlt | hge
                      · have := Nat.mul_le_mul_right b.sz (show i + 1 ≤ off from hlt)
                        rw [Nat.add_mul, Nat.one_mul] at this; omega
                      · have := Nat.mul_le_mul_right b.sz (show off + len ≤ i by omega)
                        omega
                  · have : VRel S g (stab w0 R) (v.mapR (upR lv)) cv := by cases v <;> first | exact k2.1 | simp [AV.scal] at hs
                    rwa [scal_mapR hs] at this)
            exact Goes.does ⟨_, _, g, goes_clear_run ho hrun, key.1, key.2, .undef _⟩
      · cases h
    · cases h
  · cases h
end
end Go.Ae
