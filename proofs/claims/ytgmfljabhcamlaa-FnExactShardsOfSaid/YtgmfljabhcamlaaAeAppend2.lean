import Derived.Test.YtgmfljabhcamlaaAeAppend
namespace Go.Ae
open Go.RowKit
set_option linter.unusedVariables false
set_option linter.unusedSimpArgs false
section
variable {P : Program} {w w' w0 : World} {M : Nat → Nat → Path → Option Nat} {R : Nat → Prop} {S : St} {g : G} {a : Act} {o : Oper}

theorem zeroOf_info {e : TypeId} {zero : List AV} (h : zeroOf P e = some zero) : ∃ it z, P.info? e = some it ∧ it.zero = some z ∧ z.cells.size = zero.length ∧ zero.length = it.size := by
  unfold zeroOf at h
  split at h
  · rename_i zs it hz1 hit
    split at h
    · rename_i z hzz
      split at h
      · rename_i hok
        cases h
        simp only [Bool.and_eq_true] at hok
        obtain ⟨z1, _⟩ := zeros_rel (S := default) (g := ⟨fun _ _ _ => none, fun _ => 0⟩) (cell := fun _ => none) hok.1
        exact ⟨it, z, hit, hzz, by rw [z1]; simp, by simpa using hok.2⟩
      · cases h
    · cases h
  · cases h

theorem goes_app_run {s x : Operand} {t tx : TypeId} {cv : Value} {w' : World} (ho : o.op = .call { callee := .builtin .append, args := #[s, x], argTypes := #[t, tx] })
    (h : (Builtin.append_ #[t, tx] o.type #[a.eval s, a.eval x]).run P w = .ok cv w') : (execOp a.eval o).run P w = .ok (.value cv) w' := by
  unfold execOp
  simp [ho, resolve, invoke, builtin, h]

/-- The content behind an append: rows that were there, rows that came. -/
theorem app_cell {xs ys : List (List AV)} {p : Path} {zs : List (List AV)} (hy : ∀ i c v, cellAt ys i c = some v → v.scal = true) (hp : navE (xs ++ ys) p = some zs) : (p = [] ∧ zs = xs ++ ys) ∨ (p ≠ [] ∧ navE xs p = some zs) := by
  cases p with
  | nil => simp [navE] at hp; exact .inl ⟨rfl, hp.symm⟩
  | cons q r =>
    obtain ⟨i, c⟩ := q
    right
    refine ⟨by simp, ?_⟩
    simp only [navE] at hp ⊢
    cases hc : cellAt (xs ++ ys) i c with
    | none => simp [hc] at hp
    | some v =>
      rcases cellAt_append hc with ⟨_, h⟩ | ⟨_, h⟩
      · rw [h]; rw [hc] at hp; exact hp
      · have := hy _ _ _ h
        cases v <;> first | (simp [AV.scal] at this; done) | (simp [hc] at hp)

theorem csz_eq {sz : Nat} {p : Path} {ys : List (List AV)} (h : p ≠ []) (sz' : Nat) : csz sz p ys = csz sz' p ys := by cases p <;> first | rfl | exact absurd rfl h

theorem scal_krel {cell : Addr → Option Value} {lv s : Nat} {b : Blk} {p : Path} {i c : Nat} {v : AV} {cv : Value} (hs : v.scal = true) (h : VRel S g cell v cv) : KRel cell S g lv s b p i c v cv := by
  have h' : VRel S g cell (v.mapR (upR lv)) cv := by rw [scal_mapR hs]; exact h
  cases v <;> first | exact ⟨h', fun _ => hs⟩ | simp [AV.scal] at hs

theorem app_does {O : Oracle} {md : Nat → Mode} {t tx e e' : TypeId} {x y : Operand} {xa xx : X} {it : TypeInfo} {zero : List AV} {fl : Bool} {base : Nat} {v : AV} {S' : St}
    (ho : o.op = .call { callee := .builtin .append, args := #[x, y], argTypes := #[t, tx] }) (ht : P.underlying t = some (.slice e)) (htx : P.underlying tx = some (.slice e')) (hit : P.info? e = some it) (hz : zeroOf P e = some zero) (hpos : 0 < it.size)
    (hR : RdW w0 M R) (hW : WRel w0 M R S g w) (hx : VRel S g (stab w0 R) (evalX S xa) (a.eval x)) (hy : VRel S g (stab w0 R) (evalX S xx) (a.eval y)) (h : evalW O md S base (.app fl it.size it.bytes xa xx) = some (v, S')) : Does P w0 M R S g a w o S' v := by
  obtain ⟨it', z, hit', hzz, hz1, hz2⟩ := zeroOf_info hz
  rw [hit] at hit'; cases hit'
  simp only [evalW] at h
  split at h
  · rename_i ys hs
    split at h
    · rename_i hall
      have hrows : ∀ r ∈ ys, r.length = it.size := fun r hr => by have := List.all_eq_true.1 hall r hr; simpa using this
      obtain ⟨A2, cap2, news, hcy, hsrc, hnews⟩ := source_src (P := P) htx hR hW hy hs hrows hpos
      have hnl := hsrc.newsLen
      have hys : ∀ i c v, cellAt ys i c = some v → v.scal = true := fun i c v hv => (hnews i c v hv).1
      split at h
      · -- nil
        rename_i f q hxa
        rw [hxa] at hx
        have hcx := hx.nil_inv
        split at h
        · rename_i hb
          obtain ⟨hb1, hb2⟩ := hb
          split at h
          · rename_i S1 hn
            cases h
            by_cases h0 : ys = []
            · subst h0
              have hnn : news = [] := by simpa using hnl
              subst hnn
              have hrun := run_append_nothing (P := P) w t tx o.type e it ht hit none 0 0 (Nat.le_refl _) (a.eval y) hsrc
              rw [← hcx] at hrun
              exact Goes.does ⟨_, _, _, goes_app_run ho hrun, hW.newEmpty hn rfl, Ext.empty hn, by rw [hcx]; exact vrel_newEmpty hn rfl rfl _⟩
            · have hn0 : 0 < ys.length := List.length_pos_iff.2 h0
              have hrun := run_append_grow_src (P := P) w t tx o.type e it z ht hit hzz none 0 0 [] (run_firstCells_none w.drew _ _ _ _) (a.eval y) ys.length news hsrc (by omega) (by omega) (growslice_fits (by omega) (by simpa using hb1))
              simp only [Nat.zero_add] at hrun
              rw [← hcx] at hrun
              have hge := grownCap_ge w ys.length 0 e
              obtain ⟨g', k1, k2, k3⟩ := newArr (elems := ys) (sz := it.size) (fl := fl) (s := base) (S' := S') (ty := e) (fz := (0, 0)) hW hn
                (w' := w.drew.alloc (.cells (([] ++ news).toArray ++ Builtin.zeroCells z.cells (grownCap w ys.length 0 e - ys.length)) e)) rfl rfl rfl
                (fun B hB => Below.heap_alloc w.drew _ B hB) (heap_alloc_new w.drew _) (by simp) (free_zero _) hrows hpos (by simp [size_zeroCells, hnl]) (fun i c v hv => by
                  obtain ⟨hs1, cv, c1, c2⟩ := hnews i c v hv
                  refine ⟨cv, ?_, .inl ⟨hs1, c2⟩⟩
                  have hlt := (List.getElem?_eq_some_iff.1 c1).1
                  rw [Array.getElem?_append_left (by simpa using hlt)]
                  simpa using c1)
              refine Goes.does ⟨_, _, g', goes_app_run ho hrun, k1, k2, k3 _ _ (Nat.le_refl _) hge ?_⟩
              simp only [Array.size_append, size_zeroCells, hz1, hz2, List.size_toArray, List.nil_append, hnl]
              rw [← Nat.add_mul]
              exact Nat.mul_le_mul_right _ (by omega)
          · cases h
        · cases h
      · -- a slice of one's own
        rename_i lv s ver len hxa
        rw [hxa] at hx
        split at h
        · rename_i b xs hat
          split at h
          · rename_i hc
            obtain ⟨hbox, hbfl, hbsz, rfl, hb1, hb2⟩ := hc
            cases h
            obtain ⟨hb, hver, hnav⟩ := at_blk hat
            simp only [navE, Option.some.injEq] at hnav
            subst hnav
            obtain ⟨A, cap, hcx, d1, d2, d3⟩ := hx.sl_inv.2 _ _ hat
            have hcz : csz b.sz [] b.elems = b.sz := rfl
            obtain ⟨c1, c2, c3⟩ := hW.cont lv s b [] b.elems hb rfl
            rw [hcz] at c1 c2 c3
            let b2 : Blk := { b with ver := b.ver + 1, elems := b.elems ++ ys }
            have hget := blk_get hb
            have hkey : ∀ S2 : St, S2 = S.put lv s (some b2) → S2.blk lv s = some b2 := fun S2 e => by rw [e, blk_put hget]; simp
            have hl2 : ∀ r ∈ b.elems ++ ys, r.length = b.sz := fun r hr => by
              rcases List.mem_append.1 hr with hr | hr
              · exact c1 r hr
              · rw [hbsz]; exact hrows r hr
            -- the nested places stay
            have nested : ∀ {g2 : G} {w2 : World}, Ext S g (S.put lv s (some b2)) g2 → (∀ p, p ≠ [] → g2.θ lv s p = g.θ lv s p) → (∀ B, B < w.heap.size → g.θ lv s [] ≠ some B → w2.heap[B]? = w.heap[B]? ∧ g2.κ B = g.κ B) →
                ∀ p zs, p ≠ [] → navE b.elems p = some zs → Cont (stab w0 R) (S.put lv s (some b2)) g2 w2 lv s b2 p zs := fun {g2 w2} hE hθ hk p zs hp hn => by
              obtain ⟨e1, e2, e3⟩ := hW.cont lv s b p zs hb hn
              refine ⟨e1, e2, ?_⟩
              rw [hθ p hp]
              cases hB : g.θ lv s p with
              | none => rw [hB] at e3; exact e3
              | some B =>
                rw [hB] at e3
                obtain ⟨arr, ty, fz, a1, a2, a3, a4, a5⟩ := e3
                obtain ⟨k1, k2⟩ := hk B (hW.rng _ _ _ _ hB) fun hB0 => hp (hW.inj _ _ _ _ _ _ _ hB hB0).2.2
                refine ⟨arr, ty, fz, k1.trans a1, a2, a3.trans k2.symm, a4, fun i c u hu => ?_⟩
                obtain ⟨cv, q1, q2⟩ := a5 i c u hu
                refine ⟨cv, q1, ?_⟩
                have := q2.mono hE (hθ _ (by simp))
                cases u <;> exact this
            -- the row itself
            have own : ∀ {g2 : G} {w2 : World} {B : Nat} {arr2 : Array Value} {ty2 : TypeId} {fz2 : Nat × Nat}, Ext S g (S.put lv s (some b2)) g2 → (∀ p, p ≠ [] → g2.θ lv s p = g.θ lv s p) → g2.θ lv s [] = some B → w2.heap[B]? = some (.cells arr2 ty2 fz2) → Free fz2 arr2.size →
                arr2.size = g2.κ B → (b.elems.length + ys.length) * b.sz ≤ arr2.size → (∀ i c u, cellAt b.elems i c = some u → ∃ cv, arr2[i * b.sz + c]? = some cv ∧ KRel (stab w0 R) S g lv s b [] i c u cv) → (∀ j u, news[j]? = some u → arr2[b.elems.length * b.sz + j]? = some u) →
                Cont (stab w0 R) (S.put lv s (some b2)) g2 w2 lv s b2 [] (b.elems ++ ys) := fun {g2 w2 B arr2 ty2 fz2} hE hθ hB hh hf hκ hsz hold hnew => by
              refine ⟨hl2, fun _ => by rw [show csz b2.sz [] (b.elems ++ ys) = b.sz from rfl, hbsz]; exact hpos, ?_⟩
              rw [hB]
              refine ⟨arr2, ty2, fz2, hh, hf, hκ, by simp only [List.length_append]; exact hsz, fun i c u hu => ?_⟩
              rw [show csz b2.sz [] (b.elems ++ ys) = b.sz from rfl]
              rcases cellAt_append hu with ⟨_, h⟩ | ⟨hi, h⟩
              · obtain ⟨cv, q1, q2⟩ := hold i c u h
                refine ⟨cv, q1, ?_⟩
                have := q2.mono hE (hθ _ (by simp))
                cases u <;> exact this
              · obtain ⟨hs1, cv, q1, q2⟩ := hnews _ _ _ h
                refine ⟨cv, ?_, scal_krel hs1 (q2.mono hE)⟩
                have := hnew _ _ q1
                rw [← hbsz, ← Nat.add_assoc, ← Nat.add_mul] at this
                rwa [show b.elems.length + (i - b.elems.length) = i by omega] at this
            have hvr : ∀ {g2 : G} {A' : Option Addr} {cap' : Nat}, b.elems.length + ys.length ≤ cap' → (match g2.θ lv s [] with | some B => (cap' = 0 ∨ A' = some ⟨B, 0, none⟩) ∧ cap' * b.sz ≤ g2.κ B | none => A' = none ∧ cap' = 0) →
                VRel (S.put lv s (some b2)) g2 (stab w0 R) (.sl lv s (ver + 1) [] 0 (b.elems.length + ys.length)) (.slice A' (b.elems.length + ys.length) cap') := fun {g2 A' cap'} hle hm => by
              have hb2k := hkey _ rfl
              refine .sl _ _ _ _ _ _ _ ⟨some b2, blk_get hb2k, fun b' h => by cases h; show ver + 1 ≤ b.ver + 1; omega⟩ ⟨_, _, _, rfl⟩ fun b' zs hat' => ?_
              obtain ⟨h1, h2, h3⟩ := at_blk hat'
              rw [hb2k] at h1; cases h1
              simp only [navE, Option.some.injEq] at h3
              subst h3
              refine ⟨A', cap', rfl, hle, by show 0 + _ ≤ (b.elems ++ ys).length; simp, ?_⟩
              cases hB : g2.θ lv s [] with
              | none => rw [hB] at hm; exact hm
              | some B =>
                rw [hB] at hm
                simp only [Nat.zero_mul, Nat.zero_add]
                exact ⟨hm.1, fun _ => hm.2⟩
            by_cases hroom : b.elems.length + ys.length ≤ cap
            · by_cases h0 : ys = []
              · subst h0
                have hnn : news = [] := by simpa using hnl
                subst hnn
                have hrun := run_append_nothing (P := P) w t tx o.type e it ht hit A b.elems.length cap d1 (a.eval y) hsrc
                rw [← hcx] at hrun
                obtain ⟨k1, k2⟩ := hW.change (w' := w) (S2 := S.put lv s (some b2)) (g2 := g) (T := fun _ => False) hb rfl (by show b.ver < b.ver + 1; omega) (fun _ _ _ _ => rfl) (fun p B h => .inl h) (fun _ _ _ => rfl) (fun _ h => h.elim) rfl rfl rfl (Nat.le_refl _) (fun _ _ _ => rfl)
                  (fun hE p zs hp => by
                    rcases app_cell hys hp with ⟨rfl, rfl⟩ | ⟨hne, hp⟩
                    · cases hB : g.θ lv s [] with
                      | none =>
                        rw [hB] at c3
                        refine ⟨hl2, fun h => absurd (by simpa using c3) h, ?_⟩
                        rw [hB]; simpa using c3
                      | some B =>
                        rw [hB] at c3
                        obtain ⟨arr, ty, fz, a1, a2, a3, a4, a5⟩ := c3
                        exact own hE (fun _ _ => rfl) hB a1 a2 a3 (by simpa using a4) a5 (fun j u hj => by simp at hj)
                    · exact nested hE (fun _ _ => rfl) (fun _ _ _ => ⟨rfl, rfl⟩) p zs hne hp)
                refine Goes.does ⟨_, _, g, goes_app_run ho hrun, k1, k2, ?_⟩
                rw [hcx]
                refine hvr (g2 := g) (A' := A) (cap' := cap) hroom ?_
                cases hB : g.θ lv s [] with
                | none => rw [hB] at d3; exact d3
                | some B =>
                  rw [hB] at d3
                  simp only [Nat.zero_mul, Nat.zero_add] at d3
                  exact ⟨d3.1, d3.2 trivial⟩
              · have hn0 : 0 < ys.length := List.length_pos_iff.2 h0
                cases hB : g.θ lv s [] with
                | none => rw [hB] at d3; omega
                | some B =>
                  rw [hB] at d3 c3
                  simp only [Nat.zero_mul, Nat.zero_add] at d3
                  obtain ⟨arr, ty, fz, a1, a2, a3, a4, a5⟩ := c3
                  have hA : A = some ⟨B, 0, none⟩ := by rcases d3.1 with h | h <;> first | omega | exact h
                  have hcapsz := d3.2 trivial
                  have hmul : (b.elems.length + ys.length) * b.sz ≤ cap * b.sz := Nat.mul_le_mul_right _ hroom
                  have hmul2 : (b.elems.length + ys.length) * b.sz = b.elems.length * b.sz + ys.length * b.sz := Nat.add_mul _ _ _
                  rw [← hbsz] at hnl
                  have hrun := run_append_room_src (P := P) w t tx o.type e it ht hit B 0 b.elems.length cap (a.eval y) ys.length news hsrc hroom (fun j hj => by
                      rw [blk_cell' a1, ← hbsz, Array.getElem?_eq_getElem (by omega)]; rfl) (fun j hj => by
                      simp only [World.frozen?, a1]; exact a2 _ (by rw [← hbsz]; omega))
                  rw [← hA, ← hcx, ← hbsz, Nat.zero_add] at hrun
                  obtain ⟨arr', e1, e2, e3, e4, e5, e6, e7, e8⟩ := setCells_spec B news (b.elems.length * b.sz) w arr ty fz a1 (by omega)
                  obtain ⟨k1, k2⟩ := hW.change (w' := w.setCells B (b.elems.length * b.sz) news) (S2 := S.put lv s (some b2)) (g2 := g) (T := fun B' => B' = B) hb rfl (by show b.ver < b.ver + 1; omega) (fun _ _ _ _ => rfl) (fun p B h => .inl h) (fun _ _ _ => rfl)
                    (fun B' h => ⟨[], by rw [hB, h]⟩) e6 e7 e8 (by omega) (fun B' _ h => e4 B' h)
                    (fun hE p zs hp => by
                      rcases app_cell hys hp with ⟨rfl, rfl⟩ | ⟨hne, hp⟩
                      · refine own hE (fun _ _ => rfl) hB e1 (by rw [e2]; exact a2) (by rw [e2]; exact a3) (by omega) (fun i c u hu => ?_) (fun j u hj => ?_)
                        · obtain ⟨cv, q1, q2⟩ := a5 i c u hu
                          refine ⟨cv, ?_, q2⟩
                          rw [e3, if_neg ?_]
                          · exact q1
                          · have : i < b.elems.length ∧ c < b.sz := by
                              unfold cellAt at hu
                              split at hu
                              · rename_i r hr
                                exact ⟨(List.getElem?_eq_some_iff.1 hr).1, by rw [← c1 r (List.mem_of_getElem? hr)]; exact (List.getElem?_eq_some_iff.1 hu).1⟩
                              · cases hu
                            have hm := Nat.mul_le_mul_right b.sz (show i + 1 ≤ b.elems.length by omega)
                            rw [Nat.add_mul, Nat.one_mul] at hm
                            omega
                        · have hlt := (List.getElem?_eq_some_iff.1 hj).1
                          rw [e3, if_pos (by omega), Nat.add_sub_cancel_left]; exact hj
                      · exact nested hE (fun _ _ => rfl) (fun B' _ h => ⟨e4 B' (fun he => h (by rw [he]; exact hB)), rfl⟩) p zs hne hp)
                  refine Goes.does ⟨_, _, g, goes_app_run ho hrun, k1, k2, ?_⟩
                  rw [hA]
                  refine hvr (g2 := g) hroom ?_
                  rw [hB]
                  exact ⟨.inr rfl, hcapsz⟩
            · -- a new row
              have hn0 : 0 < ys.length := by omega
              obtain ⟨olds, hold, holdl, hcells⟩ : ∃ olds : List Value, (Builtin.firstCells it.size b.elems.length (.slice A b.elems.length cap)).run P w.drew = .ok olds.toArray w.drew ∧ olds.length = b.elems.length * b.sz ∧
                  ∀ i c u, cellAt b.elems i c = some u → ∃ cv, olds[i * b.sz + c]? = some cv ∧ KRel (stab w0 R) S g lv s b [] i c u cv := by
                cases hB : g.θ lv s [] with
                | none =>
                  rw [hB] at d3 c3
                  rw [d3.1, c3]
                  exact ⟨[], run_firstCells_none w.drew _ _ _ _, by simp, fun i c u hu => by simp [cellAt] at hu⟩
                | some B =>
                  rw [hB] at d3 c3
                  simp only [Nat.zero_mul, Nat.zero_add] at d3
                  obtain ⟨arr, ty, fz, a1, a2, a3, a4, a5⟩ := c3
                  refine ⟨arr.toList.take (b.elems.length * b.sz), ?_, by simp; omega, fun i c u hu => ?_⟩
                  · cases A with
                    | none =>
                      have : cap = 0 := by rcases d3.1 with h | h <;> first | exact h | cases h
                      have hl0 : b.elems.length = 0 := by omega
                      rw [hl0]; simp [Builtin.firstCells]
                    | some ad =>
                      refine run_firstCells_some w.drew it.size b.elems.length ad b.elems.length cap _ (by simp; rw [← hbsz]; omega) fun j u hj => ?_
                      have hlt : j < b.elems.length * b.sz := by have := (List.getElem?_eq_some_iff.1 hj).1; simp at this; omega
                      have hl0 : b.elems.length ≠ 0 := fun h => by rw [h] at hlt; omega
                      have hA : ad = ⟨B, 0, none⟩ := by rcases d3.1 with h | h <;> first | omega | (cases h; rfl)
                      rw [hA, Addr.add_lit]
                      rw [List.getElem?_take, if_pos hlt, Array.getElem?_toList] at hj
                      rw [show w.drew.cell? _ = w.cell? ⟨B, 0 + j, none⟩ from rfl, blk_cell' a1, Nat.zero_add]; exact hj
                  · obtain ⟨cv, q1, q2⟩ := a5 i c u hu
                    have hic : i < b.elems.length ∧ c < b.sz := by
                      unfold cellAt at hu
                      split at hu
                      · rename_i r hr
                        exact ⟨(List.getElem?_eq_some_iff.1 hr).1, by rw [← c1 r (List.mem_of_getElem? hr)]; exact (List.getElem?_eq_some_iff.1 hu).1⟩
                      · cases hu
                    have hm := Nat.mul_le_mul_right b.sz (show i + 1 ≤ b.elems.length by omega)
                    rw [Nat.add_mul, Nat.one_mul] at hm
                    exact ⟨cv, by rw [List.getElem?_take, if_pos (by omega), Array.getElem?_toList]; exact q1, q2⟩
              have hrun := run_append_grow_src (P := P) w t tx o.type e it z ht hit hzz A b.elems.length cap olds hold (a.eval y) ys.length news hsrc (by omega) (by omega) (growslice_fits (by omega) hb1)
              rw [← hcx] at hrun
              have hge := grownCap_ge w (b.elems.length + ys.length) cap e
              generalize hgc : grownCap w (b.elems.length + ys.length) cap e = gc at hrun hge
              let arr2 : Array Value := (olds ++ news).toArray ++ Builtin.zeroCells z.cells (gc - (b.elems.length + ys.length))
              have harr2 : arr2.size = gc * b.sz := by
                simp only [arr2, Array.size_append, size_zeroCells, List.size_toArray, List.length_append, holdl, hnl, hz1, hz2, ← hbsz]
                rw [← Nat.add_mul, ← Nat.add_mul]; congr 1; omega
              let g2 : G := { θ := fun lv' s' p => if lv' = lv ∧ s' = s ∧ p = [] then some w.heap.size else g.θ lv' s' p, κ := fun B => if B = w.heap.size then arr2.size else g.κ B }
              have hθn : g2.θ lv s [] = some w.heap.size := by simp [g2]
              have hθp : ∀ p, p ≠ [] → g2.θ lv s p = g.θ lv s p := fun p hp => by simp [g2, hp]
              have hκ2 : ∀ B, B < w.heap.size → g2.κ B = g.κ B := fun B hB => by simp only [g2]; rw [if_neg (by omega)]
              have hge2 : (b.elems.length + ys.length) * b.sz ≤ gc * b.sz := Nat.mul_le_mul_right _ hge
              obtain ⟨k1, k2⟩ := hW.change (w' := w.drew.alloc (.cells arr2 e)) (S2 := S.put lv s (some b2)) (g2 := g2) (T := fun _ => False) hb rfl (by show b.ver < b.ver + 1; omega)
                (fun lv' s' p h => by simp only [g2]; rw [if_neg (fun hh => h ⟨hh.1, hh.2.1⟩)]) (fun p B h => by
                  by_cases hp : p = []
                  · subst hp; rw [hθn] at h; cases h; exact .inr ⟨rfl, rfl, by simp⟩
                  · rw [hθp p hp] at h; exact .inl h) (fun B hB _ => hκ2 B hB) (fun _ h => h.elim) rfl rfl rfl (by simp) (fun B hB _ => Below.heap_alloc w.drew _ B hB)
                (fun hE p zs hp => by
                  rcases app_cell hys hp with ⟨rfl, rfl⟩ | ⟨hne, hp⟩
                  · refine own hE hθp hθn (heap_alloc_new w.drew _) (free_zero _) (by simp [g2]) (by omega) (fun i c u hu => ?_) (fun j u hj => ?_)
                    · obtain ⟨cv, q1, q2⟩ := hcells i c u hu
                      refine ⟨cv, ?_, q2⟩
                      have hlt := (List.getElem?_eq_some_iff.1 q1).1
                      simp only [arr2]
                      rw [Array.getElem?_append_left (by simp; omega), List.getElem?_toArray, List.getElem?_append_left hlt]; exact q1
                    · have hlt := (List.getElem?_eq_some_iff.1 hj).1
                      simp only [arr2]
                      rw [Array.getElem?_append_left (by simp; omega), List.getElem?_toArray, List.getElem?_append_right (by omega), holdl, Nat.add_sub_cancel_left]; exact hj
                  · exact nested hE hθp (fun B hB _ => ⟨Below.heap_alloc w.drew _ B hB, hκ2 B hB⟩) p zs hne hp)
              refine Goes.does ⟨_, _, g2, goes_app_run ho hrun, k1, k2, ?_⟩
              refine hvr (g2 := g2) hge ?_
              rw [hθn]
              refine ⟨.inr rfl, ?_⟩
              simp only [g2, if_true, harr2]
              exact Nat.le_refl _
          · cases h
        · cases h
      · cases h
    · cases h
  · cases h
end
end Go.Ae
