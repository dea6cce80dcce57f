/- A store, as the evaluator does it. -/
import Derived.Test.YtgmfljabhcamlaaAeWrite
namespace Go.Ae
open Go.RowKit
set_option linter.unusedVariables false
set_option linter.unusedSimpArgs false
section
variable {P : Program} {w w0 : World} {M : Nat → Nat → Path → Option Nat} {R : Nat → Prop} {S : St} {g : G} {a : Act} {o : Oper}

/-- What an operation comes to. -/
def Does (P : Program) (w0 : World) (M : Nat → Nat → Path → Option Nat) (R : Nat → Prop) (S : St) (g : G) (a : Act) (w : World) (o : Oper) (S' : St) (v : AV) : Prop :=
  ∀ (next : Act → World → Prop) (Q : Exit → Act → World → Prop), (∀ cv w' g', Outc w0 M R S g S' v cv w' g' → next (a.put o.dst cv) w') → o.wp P a w next Q
theorem Goes.does {S' : St} {v : AV} (h : Goes P w0 M R S g a w o S' v) : Does P w0 M R S g a w o S' v := by
  intro next Q hn
  obtain ⟨cv, w', g', h1, h2⟩ := h
  unfold Oper.wp
  rw [h1]
  exact hn cv w' g' h2

theorem addNews_blk : ∀ {l : List (Nat × Blk)} {S S' : St}, addNews S l = some S' → ∀ {lv s : Nat} {b : Blk}, S.blk lv s = some b → S'.blk lv s = some b
  | [], S, S', h, lv, s, b, hb => by simp [addNews] at h; subst h; exact hb
  | (s0, b0) :: r, S, S', h, lv, s, b, hb => by
    obtain ⟨S1, h1, h2⟩ := addNews_cons h
    refine addNews_blk h2 ?_
    rw [new_blk h1]
    split
    · rename_i hc
      obtain ⟨rfl, rfl⟩ := hc
      have := blk_get hb
      rw [show S.heap 0 = S.loc from rfl, (new_get h1).1] at this
      cases this
    · exact hb

theorem nav_row {elems : List (List AV)} {p : Path} {ys : List (List AV)} {i : Nat} {row : List AV} (h : navE elems p = some ys) (hp : p = []) (hi : ys[i]? = some row) : elems[i]? = some row := by
  subst hp; simp [navE] at h; rw [h]; exact hi

/-- The store's core: the cells are there, the row is written. -/
theorem store_core {t : TypeId} {x y : Operand} {inf : TypeInfo} {lv s ver i c n : Nat} {b b2 : Blk} {row ws cs : List AV} {S1 S2 : St} {g1 : G} (ho : o.op = .store t x y) (hi : P.info? t = some inf) (hn : n = inf.size) (hpos : 0 < n)
    (hW : WRel w0 M R S1 g1 w) (hE : Ext S g S1 g1) (hb : S1.blk lv s = some b) (hver0 : ver = b.ver) (hrow : b.elems[i]? = some row) (hcn : c + n ≤ row.length)
    (hvx : VRel S1 g1 (stab w0 R) (.ptr lv s ver [] i c) (a.eval x)) (hws : ws.length = n) (h1 : ws.all AV.one = true)
    (hcells : ws.length = (a.eval y).cells.size ∧ ∀ (i : Nat) (u : AV), ws[i]? = some u → VRel S1 g1 (stab w0 R) u ((a.eval y).cells.getD i undef)) (hcs : cs.length = n)
    (hS2 : S2 = S1.put lv s (some b2)) (hb2 : b2 = { b with ver := b2.ver, elems := b.elems.set i (row.take c ++ cs ++ row.drop (c + n)) }) (hver : b.ver ≤ b2.ver) (hsame : b.ver = b2.ver → ∀ i c fl zs, cellAt b2.elems i c ≠ some (.own fl zs))
    (hq : ∀ (j : Nat) (v : AV), cs[j]? = some v → (b.box = true ∧ VRel S1 g1 (stab w0 R) (v.mapR (upR lv)) ((a.eval y).cells.getD j undef) ∧ ∀ fl zs, v ≠ .own fl zs) ∨ (b.box = false ∧ CellQ S1 g1 (stab w0 R) b.fl v ((a.eval y).cells.getD j undef))) :
    Does P w0 M R S g a w o S2 .skp := by
  intro next Q hnext
  have hat : S1.at lv s ver [] = some (b, b.elems) := at_mk hb hver0 rfl
  obtain ⟨B, arr, ty, fz, k1, k2, k3, k4, k5, k6, k7, k8, _⟩ := own_cells hW hat hrow hcn (hvx.ptr_inv.2 _ _ hat)
  have hcz : csz b.sz [] b.elems = b.sz := rfl
  rw [hcz] at k1 k6 k7 k8
  have hlen : (a.eval y).cells.toList.length = n := by simp; omega
  obtain ⟨g2, hW2, hE2⟩ := hW.write (us := (a.eval y).cells.toList) hb hrow hcn hcs hlen hpos hS2 hb2 hver hsame k2 k3 (fun j v hj => by
    have := hq j v hj
    rwa [show (a.eval y).cells.toList.getD j undef = (a.eval y).cells.getD j undef by simp [List.getD, Array.getD_eq_getD_getElem?]])
  have hrun := run_storeAt (P := P) (w := w) (t := t) (B := B) (off := i * b.sz + c) (v := a.eval y) hi k3 k4 (by omega) hcells (by omega) h1
  rw [← k1] at hrun
  have := goes_store_run (a := a) ho hrun
  unfold Oper.wp
  rw [this]
  exact hnext undef _ g2 ⟨hW2, hE.trans hE2, .skp⟩

theorem all_get {p : AV → Bool} {ws : List AV} (h : ws.all p = true) {j : Nat} {v : AV} (hj : ws[j]? = some v) : p v = true := List.all_eq_true.1 h _ (List.mem_of_getElem? hj)

theorem set_own {xs : List (List AV)} {i : Nat} {row cs : List AV} {c n : Nat} (hrow : xs[i]? = some row) (h0 : ∀ i c fl zs, cellAt xs i c ≠ some (.own fl zs)) (h1 : ∀ (j : Nat) (v : AV), cs[j]? = some v → ∀ fl zs, v ≠ .own fl zs) :
    ∀ i' c' fl zs, cellAt (xs.set i (row.take c ++ cs ++ row.drop (c + n))) i' c' ≠ some (.own fl zs) := by
  intro i' c' fl zs h
  rcases cellAt_set h with ⟨rfl, _, hc⟩ | ⟨_, hc⟩
  · have hm := List.mem_of_getElem? hc
    simp only [List.mem_append] at hm
    have hrow' : ∀ u ∈ row, u = .own fl zs → False := fun u hu e => by
      subst e
      obtain ⟨j, hj⟩ := List.getElem?_of_mem hu
      exact h0 i' j fl zs (by rw [cellAt_row hrow]; exact hj)
    rcases hm with (hm | hm) | hm
    · exact hrow' _ (List.mem_of_mem_take hm) rfl
    · obtain ⟨j, hj⟩ := List.getElem?_of_mem hm
      exact h1 j _ hj fl zs rfl
    · exact hrow' _ (List.mem_of_mem_drop hm) rfl
  · exact h0 _ _ _ _ hc

theorem store_does {O : Oracle} {md : Nat → Mode} {t : TypeId} {x y : Operand} {xa xx : X} {inf : TypeInfo} {n base : Nat} {v : AV} {S' : St} (ho : o.op = .store t x y) (hi : P.info? t = some inf) (hn : n = inf.size) (hpos : 0 < n)
    (hW : WRel w0 M R S g w) (hx : VRel S g (stab w0 R) (evalX S xa) (a.eval x)) (hy : VRel S g (stab w0 R) (evalX S xx) (a.eval y)) (h : evalW O md S base (.store n xa xx) = some (v, S')) : Does P w0 M R S g a w o S' v := by
  simp only [evalW] at h
  split at h
  · rename_i lv s ver p i c ws hxa hws
    rw [hxa] at hx
    have hcells := cells_rel hy hws
    split at h
    · rename_i b ys hat
      obtain ⟨hb, hver, hnav⟩ := at_blk hat
      split at h
      · rename_i row hrow0
        split at h
        · rename_i hc
          obtain ⟨hc1, hc2, hc3⟩ := hc
          have hcont := hW.cont lv s b [] b.elems hb rfl
          split at h
          · rename_i hbox
            obtain ⟨rfl, rfl⟩ := box_nav (fun i c fl zs => box_own hcont hbox) hnav
            split at h
            · split at h
              · rename_i hsc
                cases h
                refine store_core ho hi hn hpos hW (.refl _ _) hb hver hrow0 hc1 hx hc2 hc3 hcells hc2 rfl rfl (Nat.le_refl _) (fun _ => set_own hrow0 (fun i c fl zs => box_own hcont hbox) fun j u hj fl zs he => ?_) fun j u hj => ?_
                · have := all_get hsc hj; rw [he] at this; simp [AV.scal] at this
                · have hs := all_get hsc hj
                  refine .inl ⟨hbox, by rw [scal_mapR hs]; exact hcells.2 j u hj, fun fl zs he => by rw [he] at hs; simp [AV.scal] at hs⟩
              · cases h
            · rename_i hlv
              have hlv0 : lv = 0 := by omega
              subst hlv0
              split at h
              · rename_i cs news hbc
                split at h
                · rename_i S1 hS1
                  cases h
                  obtain ⟨g1, e1, e2, e3, e4, e5⟩ := boxCells_rel (cvs := fun i => (a.eval y).cells.getD i undef) hbc hS1 hW hcells.2
                  refine store_core ho hi hn hpos e1 e2 (addNews_blk hS1 hb) hver hrow0 hc1 (hx.mono e2) hc2 hc3 ⟨hcells.1, fun j u hj => (hcells.2 j u hj).mono e2⟩ (by omega) rfl rfl (Nat.le_refl _)
                    (fun _ => set_own hrow0 (fun i c fl zs => box_own hcont hbox) fun j u hj => (e5 j u hj).2) fun j u hj => .inl ⟨hbox, by rw [mapR_up0]; exact (e5 j u hj).1, (e5 j u hj).2⟩
                · cases h
              · cases h
          · rename_i hbox
            have hbox' : b.box = false := by simpa using hbox
            split at h
            · split at h
              · rename_i cs hrc
                cases h
                have hrow : b.elems[i]? = some row := nav_row hnav rfl hrow0
                simp only [navE, Option.some.injEq] at hnav
                subst hnav
                obtain ⟨e1, e2⟩ := rowCells_rel (us := fun i => (a.eval y).cells.getD i undef) hrc hcells.2
                refine store_core ho hi hn hpos hW (.refl _ _) hb hver hrow hc1 hx hc2 hc3 hcells (by omega) rfl rfl (by simp; split <;> omega) (fun hv => ?_) fun j u hj => .inr ⟨hbox', e2 j u hj⟩
                simp only at hv
                have hfl : b.fl = true := by
                  by_cases hf : b.fl = true
                  · exact hf
                  · rw [if_neg hf] at hv; omega
                have hold := flat_scal hW hb hbox' hfl (show navE b.elems [] = some b.elems from rfl)
                refine set_own hrow (fun i c fl zs hh => ?_) fun j u hj fl zs he => ?_
                · unfold cellAt at hh
                  split at hh
                  · rename_i r hr
                    have := hold r (List.mem_of_getElem? hr) _ (List.mem_of_getElem? hh)
                    simp [AV.scal] at this
                  · cases hh
                · rcases e2 j u hj with ⟨hs, _⟩ | ⟨f, _, hf, _⟩
                  · rw [he] at hs; simp [AV.scal] at hs
                  · rw [hfl] at hf; cases hf
              · cases h
            · cases h
        · cases h
      · cases h
    · cases h
  · cases h
end
end Go.Ae
