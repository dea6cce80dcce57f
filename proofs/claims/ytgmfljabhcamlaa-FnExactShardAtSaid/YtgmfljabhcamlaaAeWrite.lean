/- Stores. -/
import Derived.Test.YtgmfljabhcamlaaAeCalls2
namespace Go.Ae
open Go.RowKit
set_option linter.unusedVariables false
set_option linter.unusedSimpArgs false
section
variable {P : Program} {w w0 : World} {M : Nat → Nat → Path → Option Nat} {R : Nat → Prop} {S : St} {g : G} {a : Act} {o : Oper}

theorem setCells_spec (b : Nat) : ∀ (vs : List Value) (off : Nat) (w : World) (arr : Array Value) (ty : TypeId) (fz : Nat × Nat), w.heap[b]? = some (.cells arr ty fz) → off + vs.length ≤ arr.size →
    ∃ arr', (w.setCells b off vs).heap[b]? = some (.cells arr' ty fz) ∧ arr'.size = arr.size ∧ (∀ k, arr'[k]? = if off ≤ k ∧ k < off + vs.length then vs[k - off]? else arr[k]?) ∧ (∀ B, B ≠ b → (w.setCells b off vs).heap[B]? = w.heap[B]?) ∧
      (w.setCells b off vs).heap.size = w.heap.size ∧ (w.setCells b off vs).os = w.os ∧ (w.setCells b off vs).tape = w.tape ∧ (w.setCells b off vs).output = w.output
  | [], off, w, arr, ty, fz, h, hl => ⟨arr, h, rfl, fun k => by simp; intro h1 h2; omega, fun B _ => rfl, rfl, rfl, rfl, rfl⟩
  | v :: r, off, w, arr, ty, fz, h, hl => by
    simp at hl
    have hset : (w.setCell ⟨b, off, none⟩ v).heap[b]? = some (.cells (arr.setIfInBounds off v) ty fz) := by
      simp only [World.setCell, Array.getElem?_modify, if_true, h]
      rfl
    obtain ⟨arr', e1, e2, e3, e4, e5, e6, e7, e8⟩ := setCells_spec b r (off + 1) (w.setCell ⟨b, off, none⟩ v) _ ty fz hset (by simp; omega)
    refine ⟨arr', e1, by rw [e2]; simp, fun k => ?_, fun B hB => (e4 B hB).trans (Below.heap_setCell w _ v B hB), by rw [World.setCells, e5]; simp, by rw [World.setCells, e6]; rfl, by rw [World.setCells, e7]; rfl, by rw [World.setCells, e8]; rfl⟩
    rw [e3]
    by_cases hk : k = off
    · subst hk
      have hlt : k < arr.size := by omega
      rw [if_neg (by omega), if_pos (by simp)]
      simp [hlt]
    · by_cases hr : off ≤ k ∧ k < off + (v :: r).length
      · simp only [List.length_cons] at hr
        rw [if_pos (by omega), if_pos (by simp; omega)]
        have e : k - off = (k - (off + 1)) + 1 := by omega
        rw [e, List.getElem?_cons_succ]
      · simp only [List.length_cons] at hr
        rw [if_neg (by omega), if_neg (by simp; omega), Array.getElem?_setIfInBounds_ne (by omega)]

theorem one_cell {cell : Addr → Option Value} {v : AV} {cv : Value} (h : v.one = true) (hv : VRel S g cell v cv) : cv.oneCell' = true := by
  cases v <;> simp [AV.one] at h
  case int => rw [hv.int_inv]; rfl
  case bool => rw [hv.bool_inv]; rfl
  case str => rw [hv.str_inv]; rfl
  case nil => rw [hv.nil_inv]; rfl
  case rd => cases hv.rd_inv; rfl
  case rptr => cases hv.rptr_inv; rfl
  case fn => obtain ⟨arr, rfl, _⟩ := hv.fn_inv; rfl
  case sl => cases hv with | sl _ _ _ _ _ _ _ _ hv _ => obtain ⟨A, l, c, rfl⟩ := hv; rfl
  case ptr => cases hv with | ptr _ _ _ _ _ _ _ _ hv _ => obtain ⟨x, rfl⟩ := hv; rfl

/-- A store, run. -/
theorem run_storeAt {t : TypeId} {inf : TypeInfo} {B off : Nat} {arr : Array Value} {ty : TypeId} {fz : Nat × Nat} {v : Value} {ws : List AV} {cell : Addr → Option Value} (hi : P.info? t = some inf) (hb : w.heap[B]? = some (.cells arr ty fz)) (hf : Free fz arr.size) (hl : off + inf.size ≤ arr.size)
    (hw : ws.length = v.cells.size ∧ ∀ (i : Nat) (u : AV), ws[i]? = some u → VRel S g cell u (v.cells.getD i undef)) (hn : ws.length = inf.size) (h1 : (ws.all AV.one) = true) :
    (Instr.storeAt t (.pointer (some ⟨B, off, none⟩)) v).run P w = .ok () (w.setCells B off v.cells.toList) := by
  have hsz : v.cells.size = inf.size := by omega
  have hst := run_storeCells_cells (P := P) B off v.cells.toList 0 w (fun j hj => by
      have hj' : j < v.cells.size := by simpa using hj
      rw [blk_cell' hb]
      simp; omega) (fun j hj => by
      have hj' : j < v.cells.size := by simpa using hj
      simp only [World.frozen?, hb]
      exact hf _ (by omega)) (fun u hu => by
      obtain ⟨j, hj⟩ := List.getElem?_of_mem hu
      have hjlt : j < v.cells.size := by simpa using (List.getElem?_eq_some_iff.1 hj).1
      have hwj := List.getElem?_eq_getElem (show j < ws.length by omega)
      have := hw.2 j _ hwj
      have hu' : v.cells.getD j undef = u := by
        rw [Array.getElem?_toList] at hj; simp [hj]
      rw [hu'] at this
      exact one_cell (List.all_eq_true.1 h1 _ (List.mem_of_getElem? hwj)) this)
  simp [Instr.storeAt, Instr.sureAddr, storeVar, run_sizeOf' hi, hsz]
  simpa using hst

theorem goes_store_run {t : TypeId} {x y : Operand} {w' : World} (ho : o.op = .store t x y) (h : (Instr.storeAt t (a.eval x) (a.eval y)).run P w = .ok () w') : (execOp a.eval o).run P w = .ok .skip w' := by
  unfold execOp
  rw [ho]
  show ((Instr.storeAt t (a.eval x) (a.eval y)) >>= fun _ => pure Next.skip).run P w = _
  simp [h]

/-- A place's row is written. -/
theorem WRel.write {lv s : Nat} {b b2 : Blk} {i c n : Nat} {row cs : List AV} {us : List Value} {B : Nat} {arr : Array Value} {ty : TypeId} {fz : Nat × Nat} {S2 : St} (hW : WRel w0 M R S g w) (hb : S.blk lv s = some b) (hrow : b.elems[i]? = some row) (hcn : c + n ≤ row.length) (hcs : cs.length = n) (hus : us.length = n) (hn : 0 < n)
    (hS2 : S2 = S.put lv s (some b2)) (hb2 : b2 = { b with ver := b2.ver, elems := b.elems.set i (row.take c ++ cs ++ row.drop (c + n)) }) (hver : b.ver ≤ b2.ver) (hsame : b.ver = b2.ver → ∀ i c fl zs, cellAt b2.elems i c ≠ some (.own fl zs))
    (hB : g.θ lv s [] = some B) (hheap : w.heap[B]? = some (.cells arr ty fz))
    (hq : ∀ j v, cs[j]? = some v → (b.box = true ∧ VRel S g (stab w0 R) (v.mapR (upR lv)) (us.getD j undef) ∧ ∀ fl zs, v ≠ .own fl zs) ∨ (b.box = false ∧ CellQ S g (stab w0 R) b.fl v (us.getD j undef))) :
    ∃ g2, WRel w0 M R S2 g2 (w.setCells B (i * b.sz + c) us) ∧ Ext S g S2 g2 := by
  have hget := blk_get hb
  obtain ⟨d1, d2, d3⟩ := hW.cont lv s b [] b.elems hb rfl
  rw [hB] at d3
  obtain ⟨arr0, ty0, fz0, a1, a2, a3, a4, a5⟩ := d3
  rw [hheap] at a1; cases a1
  have hcz : csz b.sz [] b.elems = b.sz := rfl
  rw [hcz] at d1 d2 a4 a5
  have hrl : row.length = b.sz := d1 row (List.mem_of_getElem? hrow)
  have hilt : i < b.elems.length := (List.getElem?_eq_some_iff.1 hrow).1
  have hmul : i * b.sz + b.sz ≤ b.elems.length * b.sz := by
    have := Nat.mul_le_mul_right b.sz (show i + 1 ≤ b.elems.length from hilt)
    rwa [Nat.add_mul, Nat.one_mul] at this
  obtain ⟨arr', e1, e2, e3, e4, e5, e6, e7, e8⟩ := setCells_spec B us (i * b.sz + c) w arr ty fz hheap (by omega)
  have q1 : b2.sz = b.sz := by rw [hb2]
  have q2 : b2.box = b.box := by rw [hb2]
  have q3 : b2.fl = b.fl := by rw [hb2]
  have q4 : b2.elems = b.elems.set i (row.take c ++ cs ++ row.drop (c + n)) := by rw [hb2]
  -- the cells of the new content
  have hcell : ∀ i' c' v, cellAt b2.elems i' c' = some v → (i' = i ∧ c ≤ c' ∧ c' < c + n ∧ cs[c' - c]? = some v) ∨ (¬ (i' = i ∧ c ≤ c' ∧ c' < c + n) ∧ cellAt b.elems i' c' = some v) := by
    intro i' c' v hv
    rw [q4] at hv
    rcases cellAt_set hv with ⟨rfl, _, hc'⟩ | ⟨hne, hc'⟩
    · have hl1 : (row.take c).length = c := by simp; omega
      by_cases h1 : c' < c
      · rw [List.append_assoc, List.getElem?_append_left (by omega), List.getElem?_take, if_pos h1] at hc'
        exact .inr ⟨by omega, by rw [cellAt_row hrow]; exact hc'⟩
      · by_cases h2 : c' < c + n
        · rw [List.append_assoc, List.getElem?_append_right (by omega), hl1, List.getElem?_append_left (by omega)] at hc'
          exact .inl ⟨rfl, by omega, h2, hc'⟩
        · rw [List.getElem?_append_right (by simp; omega), List.getElem?_drop] at hc'
          simp only [List.length_append, hl1, hcs] at hc'
          have e : c + n + (c' - (c + n)) = c' := by omega
          rw [e] at hc'
          exact .inr ⟨by omega, by rw [cellAt_row hrow]; exact hc'⟩
    · exact .inr ⟨fun h => hne h.1, hc'⟩
  let drop : Path → Bool := fun p => match p with | (i', c') :: _ => decide (i' = i ∧ c ≤ c' ∧ c' < c + n) | [] => false
  let g2 : G := { θ := fun lv' s' p => if lv' = lv ∧ s' = s ∧ drop p = true then none else g.θ lv' s' p, κ := g.κ }
  have hθ0 : ∀ lv' s' p B', g2.θ lv' s' p = some B' → g.θ lv' s' p = some B' := fun lv' s' p B' h => by
    simp only [g2] at h
    split at h
    · cases h
    · exact h
  have hθnil : ∀ lv' s', g2.θ lv' s' [] = g.θ lv' s' [] := fun lv' s' => by simp [g2, drop]
  have hθoth : ∀ lv' s' p, ¬ (lv' = lv ∧ s' = s) → g2.θ lv' s' p = g.θ lv' s' p := fun lv' s' p h => by
    simp only [g2]; rw [if_neg fun hh => h ⟨hh.1, hh.2.1⟩]
  have hblk : ∀ lv' s', S2.blk lv' s' = if lv' = lv ∧ s' = s then some b2 else S.blk lv' s' := fun lv' s' => by rw [hS2, blk_put hget]
  have hnav : ∀ p ys, navE b2.elems p = some ys → p = [] ∧ ys = b2.elems ∨ ∃ i' c' q fl zs, p = (i', c') :: q ∧ cellAt b2.elems i' c' = some (.own fl zs) ∧ navE zs q = some ys := by
    intro p ys hp
    cases p with
    | nil => left; simp [navE] at hp; exact ⟨rfl, hp.symm⟩
    | cons x q =>
      obtain ⟨i', c'⟩ := x
      right
      simp only [navE] at hp
      cases hu : cellAt b2.elems i' c' with
      | none => simp [hu] at hp
      | some v =>
        cases v with
        | own fl zs => simp only [hu] at hp; exact ⟨i', c', q, fl, zs, rfl, hu, hp⟩
        | _ => simp [hu] at hp
  have hE : Ext S g S2 g2 := by
    intro lv' s' ob hob
    rw [hS2]
    by_cases hc : lv' = lv ∧ s' = s
    · obtain ⟨rfl, rfl⟩ := hc
      rw [hget] at hob; cases hob
      refine ⟨some b2, by rw [get_put hget]; simp, fun b' hb' => ?_⟩
      cases hb'
      refine ⟨b, rfl, hver, fun hv => ⟨q1, fun p ys hp => ?_⟩⟩
      obtain ⟨rfl, rfl⟩ := box_nav (hsame hv) hp
      exact ⟨b.elems, rfl, by rw [q4]; simp, q1, hθnil _ _, fun B' _ => rfl⟩
    · refine ⟨ob, by rw [get_put hget, if_neg hc]; exact hob, fun b' hb' => ⟨b', hb', Nat.le_refl _, fun _ => ⟨rfl, fun p ys hp => ⟨ys, hp, Nat.le_refl _, rfl, hθoth _ _ _ hc, fun _ _ => rfl⟩⟩⟩⟩
  refine ⟨g2, ?_, hE⟩
  refine { os := e6.trans hW.os, tape := e7.trans hW.tape, output := e8.trans hW.output, size := by rw [e5]; exact hW.size, keep := fun B' hB' hM => ?_, rng := fun lv' s' p B' h => by rw [e5]; exact hW.rng _ _ _ _ (hθ0 _ _ _ _ h),
           fresh := fun s' p B' h => hW.fresh _ _ _ (hθ0 _ _ _ _ h), ext := fun lv' s' p B' h => hW.ext _ _ _ _ (hθ0 _ _ _ _ h), inj := fun lv1 s1 p1 lv2 s2 p2 B' h h' => hW.inj _ _ _ _ _ _ B' (hθ0 _ _ _ _ h) (hθ0 _ _ _ _ h'), cont := fun lv' s' b' p ys hb' hp => ?_ }
  · have hne : B' ≠ B := by
      rintro rfl
      cases lv with
      | zero => have := hW.fresh s [] B' hB; omega
      | succ m => rcases hW.ext m s [] B' hB with h | h
                  · exact hM _ _ _ h
                  · omega
    exact (e4 B' hne).trans (hW.keep B' hB' hM)
  · rw [hblk] at hb'
    by_cases hc : lv' = lv ∧ s' = s
    · rw [if_pos hc] at hb'; cases hb'
      obtain ⟨rfl, rfl⟩ := hc
      rcases hnav p ys hp with ⟨rfl, rfl⟩ | ⟨i', c', q, fl, zs, rfl, hown, hq'⟩
      · have hcz2 : csz b2.sz [] b2.elems = b.sz := q1
        refine ⟨fun r hr => ?_, fun hne => ?_, ?_⟩
        · rw [hcz2]
          rw [q4] at hr
          rcases List.mem_or_eq_of_mem_set hr with hr | rfl
          · exact d1 r hr
          · simp; omega
        · rw [hcz2]; exact d2 fun h => by rw [h] at hrow; simp at hrow
        · rw [hθnil, hB]
          refine ⟨arr', ty, fz, e1, by rw [e2]; exact a2, by rw [e2]; exact a3, by rw [hcz2, e2, q4]; simpa using a4, fun i' c' v hv => ?_⟩
          rw [hcz2]
          have hc'lt : c' < b.sz := by
            rw [q4] at hv
            unfold cellAt at hv
            split at hv
            · rename_i r hr
              have hlt := (List.getElem?_eq_some_iff.1 hv).1
              rcases List.mem_or_eq_of_mem_set (List.mem_of_getElem? hr) with hr' | rfl
              · rw [d1 r hr'] at hlt; exact hlt
              · simp at hlt; omega
            · cases hv
          rcases hcell i' c' v hv with ⟨rfl, h1, h2, h3⟩ | ⟨hnot, hold⟩
          · have hu : us[c' - c]? = some (us.getD (c' - c) undef) := by
              have : c' - c < us.length := by omega
              simp [List.getD, this]
            refine ⟨us.getD (c' - c) undef, ?_, ?_⟩
            · rw [e3, if_pos (by omega)]
              have e : i' * b.sz + c' - (i' * b.sz + c) = c' - c := by omega
              rw [e]; exact hu
            · rcases hq _ _ h3 with ⟨hbx, hv1, hv2⟩ | ⟨hbx, hv1⟩
              · have hv1' := hv1.mono hE
                cases v <;> first | exact absurd rfl (hv2 _ _) | exact ⟨hv1', fun h => by rw [q2, hbx] at h; cases h⟩
              · rcases hv1 with ⟨hs, hv1⟩ | ⟨f, rfl, hfl, hcv⟩
                · have hv1' := hv1.mono hE
                  rw [← scal_mapR (f := upR lv') hs] at hv1'
                  cases v <;> first | exact ⟨hv1', fun _ => hs⟩ | simp [AV.scal] at hs
                · refine ⟨by rw [q2]; exact hbx, by rw [q3]; exact hfl, fun _ r hr => by simp at hr, none, 0, hcv, Nat.le_refl _, ?_⟩
                  have : g2.θ lv' s' ([] ++ [(i', c')]) = none := by
                    simp only [g2, drop, List.nil_append]
                    rw [if_pos (by refine ⟨by simp, by simp, ?_⟩; simp; omega)]
                  rw [this]; exact ⟨rfl, rfl⟩
          · obtain ⟨cv, k1, k2⟩ := a5 i' c' v hold
            refine ⟨cv, ?_, ?_⟩
            · rw [e3, if_neg ?_]
              · exact k1
              · rintro ⟨q5, q6⟩
                have hii : i' ≠ i ∨ i' = i := by omega
                rcases hii with hne | rfl
                · rcases Nat.lt_or_gt_of_ne hne with hlt | hgt
                  · have := Nat.mul_le_mul_right b.sz (show i' + 1 ≤ i from hlt)
                    rw [Nat.add_mul, Nat.one_mul] at this; omega
                  · have := Nat.mul_le_mul_right b.sz (show i + 1 ≤ i' from hgt)
                    rw [Nat.add_mul, Nat.one_mul] at this; omega
                · exact hnot ⟨rfl, by omega, by omega⟩
            · have k2' := k2
              cases v with
              | own fl zs =>
                obtain ⟨m1, m2, m3, m4⟩ := k2'
                refine ⟨by rw [q2]; exact m1, by rw [q3]; exact m2, m3, ?_⟩
                have : g2.θ lv' s' ([] ++ [(i', c')]) = g.θ lv' s' ([] ++ [(i', c')]) := by
                  simp only [g2, drop, List.nil_append]
                  rw [if_neg (by simpa using hnot)]
                rw [this]; exact m4
              | _ => exact ⟨k2'.1.mono hE, fun h => k2'.2 (by rw [← q2]; exact h)⟩
      · -- a row inside: it is as it was, or has no cells
        rcases hcell i' c' _ hown with ⟨rfl, h1, h2, h3⟩ | ⟨hnot, hold⟩
        · have hz : zs = [] := by
            rcases hq _ _ h3 with ⟨_, _, hv2⟩ | ⟨_, hv1⟩
            · exact absurd rfl (hv2 _ _)
            · rcases hv1 with ⟨hs, _⟩ | ⟨f, he, _⟩
              · simp [AV.scal] at hs
              · cases he; rfl
          subst hz
          have hys : ys = [] := by
            cases q with
            | nil => simpa [navE] using hq'.symm
            | cons x r => obtain ⟨i3, c3⟩ := x; simp [navE, cellAt] at hq'
          subst hys
          refine ⟨fun r hr => by simp at hr, fun h => absurd rfl h, ?_⟩
          have : g2.θ lv' s' ((i', c') :: q) = none := by
            simp only [g2, drop]
            rw [if_pos (by refine ⟨by simp, by simp, ?_⟩; simp; omega)]
          rw [this]
        · have hnav0 : navE b.elems ((i', c') :: q) = some ys := by simp only [navE, hold]; exact hq'
          have hcont := hW.cont lv' s' b ((i', c') :: q) ys hb hnav0
          obtain ⟨c1, c2, c3⟩ := hcont
          refine ⟨c1, c2, ?_⟩
          have hθq : ∀ q', g2.θ lv' s' ((i', c') :: q') = g.θ lv' s' ((i', c') :: q') := fun q' => by
            simp only [g2, drop]
            rw [if_neg (by simpa using hnot)]
          rw [hθq]
          cases hB' : g.θ lv' s' ((i', c') :: q) with
          | none => rw [hB'] at c3; exact c3
          | some B' =>
            rw [hB'] at c3
            obtain ⟨arr1, ty1, fz1, f1, f2, f3, f4, f5⟩ := c3
            have hne : B' ≠ B := fun h => by
              subst h
              have := (hW.inj _ _ _ _ _ _ _ hB hB').2.2
              cases this
            refine ⟨arr1, ty1, fz1, (e4 B' hne).trans f1, f2, f3, f4, fun i3 c3 v hv => ?_⟩
            obtain ⟨cv, k1, k2⟩ := f5 i3 c3 v hv
            refine ⟨cv, k1, ?_⟩
            cases v with
            | own fl' zs' =>
              obtain ⟨m1, m2, m3, m4⟩ := k2
              refine ⟨by rw [q2]; exact m1, by rw [q3]; exact m2, m3, ?_⟩
              rw [show ((i', c') :: q) ++ [(i3, c3)] = (i', c') :: (q ++ [(i3, c3)]) from rfl, hθq]; exact m4
            | _ => exact ⟨k2.1.mono hE, fun h => k2.2 (by rw [← q2]; exact h)⟩
    · rw [if_neg hc] at hb'
      refine (hW.cont lv' s' b' p ys hb' hp).mono hE (fun q => hθoth _ _ q hc) fun B' hB' => ⟨e4 B' ?_, rfl⟩
      rintro rfl
      obtain ⟨h1, h2, _⟩ := hW.inj _ _ _ _ _ _ _ hB hB'
      exact hc ⟨h1.symm, h2.symm⟩
end
end Go.Ae
