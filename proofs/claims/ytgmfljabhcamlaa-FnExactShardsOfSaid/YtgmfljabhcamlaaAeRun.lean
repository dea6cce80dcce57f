/- The machine's operations, run. -/
import Derived.Test.YtgmfljabhcamlaaAeOps
namespace Go.Ae
open Go.RowKit
set_option linter.unusedVariables false
set_option linter.unusedSimpArgs false
section
variable {P : Program} {w w0 : World} {M : Nat → Nat → Path → Option Nat} {R : Nat → Prop} {S : St} {g : G} {a : Act} {o : Oper}

theorem run_of_value {ρ : Operand → Value} {o : Oper} {s : Sem Value} {cv : Value} {w' : World} (he : execOp ρ o = (do pure (.value (← s)))) (h : s.run P w = .ok cv w') : (execOp ρ o).run P w = .ok (.value cv) w' := by
  rw [he]
  show (s >>= fun x => pure (Next.value x)).run P w = _
  simp [h]

/-- What an operation comes to that writes nothing. -/
def Goes (P : Program) (w0 : World) (M : Nat → Nat → Path → Option Nat) (R : Nat → Prop) (S : St) (g : G) (a : Act) (w : World) (o : Oper) (S' : St) (v : AV) : Prop :=
  ∃ cv w' g', (execOp a.eval o).run P w = .ok (.value cv) w' ∧ Outc w0 M R S g S' v cv w' g'

theorem goes_same {v : AV} {cv : Value} (hW : WRel w0 M R S g w) (hr : (execOp a.eval o).run P w = .ok (.value cv) w) (hv : VRel S g (stab w0 R) v cv) : Goes P w0 M R S g a w o S v := ⟨cv, w, g, hr, .same hW hv⟩

theorem goes_move {x : Operand} (ho : o.op = .move x ∨ o.op = .assign x) (hW : WRel w0 M R S g w) {v : AV} (hv : VRel S g (stab w0 R) v (a.eval x)) : Goes P w0 M R S g a w o S v :=
  goes_same hW (by unfold execOp; rcases ho with ho | ho <;> simp [ho]) hv

theorem Ext.empty {s : Nat} {b : Blk} {S' : St} (hn : S.new s b = some S') : Ext S g S' (g.add s (fun _ => none) g.κ) := Ext.new hn _ fun _ _ _ _ _ => rfl
/-- A new place that has no cells: no block. -/
theorem WRel.newEmpty (hW : WRel w0 M R S g w) {s : Nat} {b : Blk} {S' : St} (hn : S.new s b = some S') (he : b.elems = []) : WRel w0 M R S' (g.add s (fun _ => none) g.κ) w := by
  refine hW.extend hn (fun _ => none) g.κ (fun _ _ _ _ _ => rfl) (fun p B h => by cases h) (fun p q B h => by cases h) fun p ys hp => ?_
  rw [he] at hp
  have hys : ys = [] := by
    cases p with
    | nil => simpa [navE] using hp.symm
    | cons x r => obtain ⟨i, c⟩ := x; simp [navE, cellAt] at hp
  subst hys
  exact ⟨fun r hr => by simp at hr, fun h => absurd rfl h, by simp [G.add]⟩
theorem vrel_newEmpty {cell : Addr → Option Value} {s : Nat} {b : Blk} {S' : St} (hn : S.new s b = some S') (hv : b.ver = 0) (he : b.elems = []) (κ : Nat → Nat) : VRel S' (g.add s (fun _ => none) κ) cell (.sl 0 s 0 [] 0 0) (.slice none 0 0) := by
  have hb := new_blk hn 0 s
  rw [if_pos ⟨rfl, rfl⟩] at hb
  refine .sl _ _ _ _ _ _ _ ⟨some b, blk_get hb, fun b' h => by cases h; omega⟩ ⟨_, _, _, rfl⟩ fun b' ys hat => ?_
  obtain ⟨h1, h2, h3⟩ := at_blk hat
  exact ⟨none, 0, rfl, Nat.le_refl _, by simp, by simp [G.add]⟩

theorem goes_nil0 {x : Operand} {fl : Bool} {sz base : Nat} {S' : St} (ho : o.op = .assign x) (hW : WRel w0 M R S g w) (hv : VRel S g (stab w0 R) (.nil fl sz) (a.eval x))
    (hn : S.new base { ver := 0, sz, box := false, fl, elems := [] } = some S') : Goes P w0 M R S g a w o S' (.sl 0 base 0 [] 0 0) := by
  have he := hv.nil_inv
  exact ⟨.slice none 0 0, w, _, by unfold execOp; simp [ho, he], hW.newEmpty hn rfl, Ext.empty hn, vrel_newEmpty hn rfl rfl _⟩

theorem goes_pick {c x y : Operand} {t : Bool} (ho : o.op = .pick c x y) (hW : WRel w0 M R S g w) (hc : a.eval c = .bool t) {v : AV} (hv : VRel S g (stab w0 R) v (if t then a.eval x else a.eval y)) : Goes P w0 M R S g a w o S v :=
  goes_same hW (by unfold execOp; simp [ho, hc, asBool]) hv

/-! ### Blocks of one's own: variables -/
theorem addNews_cons {s : Nat} {b : Blk} {r : List (Nat × Blk)} {S' : St} (h : addNews S ((s, b) :: r) = some S') : ∃ S1, S.new s b = some S1 ∧ addNews S1 r = some S' := by
  simp only [addNews] at h
  split at h
  · rename_i S1 h1; exact ⟨S1, h1, h⟩
  · cases h
theorem addNews_append {l r : List (Nat × Blk)} : ∀ {S S' : St}, addNews S (l ++ r) = some S' → ∃ S1, addNews S l = some S1 ∧ addNews S1 r = some S' := by
  induction l with
  | nil => intro S S' h; exact ⟨S, rfl, h⟩
  | cons x l ih =>
    intro S S' h
    obtain ⟨s, b⟩ := x
    obtain ⟨S1, h1, h2⟩ := addNews_cons h
    obtain ⟨S2, h3, h4⟩ := ih h2
    exact ⟨S2, by simp only [addNews, h1]; exact h3, h4⟩
theorem addNews_one {s : Nat} {b : Blk} {S' : St} (h : addNews S [(s, b)] = some S') : S.new s b = some S' := by
  obtain ⟨S1, h1, h2⟩ := addNews_cons h
  simp [addNews] at h2; subst h2; exact h1
theorem addNews_tmps : ∀ {l : List (Nat × Blk)} {S S' : St}, addNews S l = some S' → S'.tmps = S.tmps ∧ S'.ext = S.ext
  | [], S, S', h => by simp [addNews] at h; subst h; exact ⟨rfl, rfl⟩
  | (s, b) :: r, S, S', h => by
    obtain ⟨S1, h1, h2⟩ := addNews_cons h
    obtain ⟨e1, e2⟩ := addNews_tmps h2
    exact ⟨e1.trans (new_tmps h1), e2.trans (new_ext h1)⟩

/-- The cells of a variable, its nil slices at places of their own: the machine's memory has not changed. -/
theorem boxCells_rel : ∀ {cs : List AV} {base : Nat} {cs' : List AV} {n : List (Nat × Blk)} {S S' : St} {g : G} {cvs : Nat → Value}, boxCells base cs = some (cs', n) → addNews S n = some S' → WRel w0 M R S g w →
    (∀ i v, cs[i]? = some v → VRel S g (stab w0 R) v (cvs i)) → ∃ g', WRel w0 M R S' g' w ∧ Ext S g S' g' ∧ g'.κ = g.κ ∧ cs'.length = cs.length ∧ ∀ i v, cs'[i]? = some v → VRel S' g' (stab w0 R) v (cvs i) ∧ (∀ fl xs, v ≠ .own fl xs)
  | [], base, cs', n, S, S', g, cvs, h, hn, hW, hv => by
    simp [boxCells] at h; obtain ⟨rfl, rfl⟩ := h
    simp [addNews] at hn; subst hn
    exact ⟨g, hW, .refl _ _, rfl, rfl, fun i v h => by simp at h⟩
  | v :: r, base, cs', n, S, S', g, cvs, h, hn, hW, hv => by
    simp only [boxCells] at h
    split at h
    · rename_i r' n' hr
      have plain : v.cells ≠ none ∨ True → (∀ fl xs, v ≠ .own fl xs) → some (v :: r', n') = some (cs', n) → ∃ g', WRel w0 M R S' g' w ∧ Ext S g S' g' ∧ g'.κ = g.κ ∧ cs'.length = (v :: r).length ∧ ∀ i u, cs'[i]? = some u → VRel S' g' (stab w0 R) u (cvs i) ∧ (∀ fl xs, u ≠ .own fl xs) := by
        intro _ hown he
        simp at he; obtain ⟨rfl, rfl⟩ := he
        obtain ⟨g', h1, h2, h3, h4, h5⟩ := boxCells_rel (cvs := fun i => cvs (i + 1)) hr hn hW (fun i v h => hv (i + 1) v (by simpa using h))
        refine ⟨g', h1, h2, h3, by simp [h4], fun i u hu => ?_⟩
        cases i with
        | zero => simp at hu; subst hu; exact ⟨(hv 0 v (by simp)).mono h2, hown⟩
        | succ i => exact h5 i u (by simpa using hu)
      cases v with
      | nil fl sz =>
        simp at h; obtain ⟨rfl, rfl⟩ := h
        obtain ⟨S1, hs1, hn1⟩ := addNews_cons hn
        have hW1 := hW.newEmpty hs1 rfl
        have he1 : Ext S g S1 _ := Ext.empty hs1
        obtain ⟨g', h1, h2, h3, h4, h5⟩ := boxCells_rel (cvs := fun i => cvs (i + 1)) hr hn1 hW1 (fun i v h => (hv (i + 1) v (by simpa using h)).mono he1)
        refine ⟨g', h1, he1.trans h2, h3, by simp [h4], fun i u hu => ?_⟩
        cases i with
        | zero =>
          simp at hu; subst hu
          have hz := (hv 0 (.nil fl sz) (by simp)).nil_inv
          rw [hz]
          exact ⟨(vrel_newEmpty hs1 rfl rfl _).mono h2, by simp⟩
        | succ i => exact h5 i u (by simpa using hu)
      | own fl xs => simp at h
      | _ => exact plain (.inr trivial) (by simp) (by simpa using h)
    · cases h

/-- A variable of the call's own. -/
theorem newBox {cs : List AV} {s : Nat} {ty : TypeId} {arr : Array Value} {S' : St} {g : G} (hW : WRel w0 M R S g w)
    (hn : S.new s { ver := 0, sz := cs.length, box := true, fl := false, elems := [cs] } = some S') (hne : cs ≠ []) (hl : cs.length = arr.size)
    (hv : ∀ i v, cs[i]? = some v → VRel S g (stab w0 R) v (arr.getD i undef) ∧ ∀ fl xs, v ≠ .own fl xs) :
    ∃ g', WRel w0 M R S' g' (w.alloc (.cells arr ty)) ∧ Ext S g S' g' ∧ VRel S' g' (stab w0 R) (.ptr 0 s 0 [] 0 0) (.pointer (some ⟨w.heap.size, 0, none⟩)) := by
  let t : Path → Option Nat := fun p => if p = [] then some w.heap.size else none
  let κ : Nat → Nat := fun B => if B = w.heap.size then arr.size else g.κ B
  have hκ : ∀ lv s p B, g.θ lv s p = some B → κ B = g.κ B := fun lv s p B hB => by
    have := hW.rng lv s p B hB
    simp only [κ]; rw [if_neg (by omega)]
  have hW' : WRel w0 M R S g (w.alloc (.cells arr ty)) := hW.world rfl rfl rfl (by simp) fun B hB => Below.heap_alloc w _ B hB
  have he := Ext.new (g := g) hn t hκ
  have hpos : 0 < cs.length := List.length_pos_iff.2 hne
  refine ⟨g.add s t κ, ?_, he, ?_⟩
  · refine hW'.extend hn t κ hκ (fun p B hB => ?_) (fun p q B h1 h2 => ?_) fun p ys hp => ?_
    · simp only [t] at hB
      split at hB
      · cases hB
        exact ⟨hW.size, by simp, fun lv s p h => by have := hW.rng lv s p _ h; omega⟩
      · cases hB
    · simp only [t] at h1 h2
      split at h1 <;> split at h2 <;> simp_all
    · have hp0 : p = [] ∧ ys = [cs] := by
        cases p with
        | nil => simpa [navE] using hp.symm
        | cons x r =>
          obtain ⟨i, c⟩ := x
          exfalso
          simp only [navE] at hp
          split at hp
          · rename_i fl zs hz
            unfold cellAt at hz
            cases i with
            | zero => simp at hz; exact (hv c _ hz).2 _ _ rfl
            | succ i => simp at hz
          · cases hp
      obtain ⟨rfl, rfl⟩ := hp0
      refine ⟨fun r hr => by simp at hr; subst hr; rfl, fun _ => hpos, ?_⟩
      rw [add_θ, if_pos ⟨rfl, rfl⟩]
      simp only [t, if_true]
      refine ⟨arr, ty, (0, 0), heap_alloc_new w _, fun o ho => by simp, by simp [G.add, κ], by simp [csz, hl], fun i c v hv' => ?_⟩
      unfold cellAt at hv'
      cases i with
      | succ i => simp at hv'
      | zero =>
        simp at hv'
        obtain ⟨h1, h2⟩ := hv c v hv'
        have hc : c < cs.length := (List.getElem?_eq_some_iff.1 hv').1
        refine ⟨arr.getD c undef, by simp [csz]; rw [Array.getElem?_eq_getElem (by omega)]; simp [show c < arr.size by omega], ?_⟩
        have h1' := h1.mono he
        rw [← mapR_up0 v] at h1'
        cases v <;> first | exact absurd rfl (h2 _ _) | exact ⟨h1', fun h => by cases h⟩
  · have hb := new_blk hn 0 s
    rw [if_pos ⟨rfl, rfl⟩] at hb
    refine .ptr _ _ _ _ _ _ _ ⟨_, blk_get hb, fun b' h => by cases h; exact Nat.le_refl _⟩ ⟨_, rfl⟩ fun b' ys hat => ?_
    obtain ⟨h1, h2, h3⟩ := at_blk hat
    exact ⟨w.heap.size, by rw [add_θ, if_pos ⟨rfl, rfl⟩]; rfl, by simp⟩
end
end Go.Ae
