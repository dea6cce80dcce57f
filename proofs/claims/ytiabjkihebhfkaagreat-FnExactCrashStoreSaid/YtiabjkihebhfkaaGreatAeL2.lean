/- The machine's operations, run. -/
import Derived.Test.YtiabjkihebhfkaaGreatAeL1
import Derived.Lib.ConvBytes
namespace Go.Ae
open Go.RowKit
set_option linter.unusedVariables false
set_option linter.unusedSimpArgs false
section
variable {P : Program} {w w0 : World} {M : Nat → Nat → Path → Option Nat} {R : Nat → Prop} {S : St} {g : G} {a : Act} {o : Oper}

theorem run_of_value {ρ : Operand → Value} {o : Oper} {s : Sem Value} {cv : Value} {w' : World} (he : execOp ρ o = (do pure (.value (← s)))) (h : s.run P w = .ok cv w') : (execOp ρ o).run P w = .ok (.value cv) w' := by
  rw [he]
  show (s >>= fun x => pure (Next.value x)).run P w = _
  simp [h]

/-- What an operation comes to that writes nothing. -/
def Goes (P : Program) (w0 : World) (M : Nat → Nat → Path → Option Nat) (R : Nat → Prop) (S : St) (g : G) (a : Act) (w : World) (o : Oper) (S' : St) (v : AV) : Prop :=
  ∃ cv w' g', (execOp a.eval o).run P w = .ok (.value cv) w' ∧ Outc w0 M R S g S' v cv w' g'

theorem goes_same {v : AV} {cv : Value} (hW : WRel w0 M R S g w) (hr : (execOp a.eval o).run P w = .ok (.value cv) w) (hv : VRel S g (stab w0 R) v cv) : Goes P w0 M R S g a w o S v := ⟨cv, w, g, hr, .same hW hv⟩

theorem goes_move {x : Operand} (ho : o.op = .move x ∨ o.op = .assign x) (hW : WRel w0 M R S g w) {v : AV} (hv : VRel S g (stab w0 R) v (a.eval x)) : Goes P w0 M R S g a w o S v :=
  goes_same hW (by unfold execOp; rcases ho with ho | ho <;> simp [ho]) hv

theorem Ext.empty {s : Nat} {b : Blk} {S' : St} (hn : S.new s b = some S') : Ext S g S' (g.add s (fun _ => none) g.κ) := Ext.new hn _ fun _ _ _ _ _ => rfl
/-- A new place that has no cells: no block. -/
theorem WRel.newEmpty (hW : WRel w0 M R S g w) {s : Nat} {b : Blk} {S' : St} (hn : S.new s b = some S') (he : b.elems = []) : WRel w0 M R S' (g.add s (fun _ => none) g.κ) w := by
  refine hW.extend hn (fun _ => none) g.κ (fun _ _ _ _ _ => rfl) (fun p B h => by cases h) (fun p q B h => by cases h) fun p ys hp => ?_
  rw [he] at hp
  have hys : ys = [] := by
    cases p with
    | nil => simpa [navE] using hp.symm
    | cons x r => obtain ⟨i, c⟩ := x; simp [navE, cellAt] at hp
  subst hys
  exact ⟨fun r hr => by simp at hr, fun h => absurd rfl h, by simp [G.add]⟩
theorem vrel_newEmpty {cell : Addr → Option Value} {s : Nat} {b : Blk} {S' : St} (hn : S.new s b = some S') (hv : b.ver = 0) (he : b.elems = []) (κ : Nat → Nat) : VRel S' (g.add s (fun _ => none) κ) cell (.sl 0 s 0 [] 0 0) (.slice none 0 0) := by
  have hb := new_blk hn 0 s
  rw [if_pos ⟨rfl, rfl⟩] at hb
  refine .sl _ _ _ _ _ _ _ ⟨some b, blk_get hb, fun b' h => by cases h; omega⟩ ⟨_, _, _, rfl⟩ fun b' ys hat => ?_
  obtain ⟨h1, h2, h3⟩ := at_blk hat
  exact ⟨none, 0, rfl, Nat.le_refl _, by simp, by simp [G.add]⟩

theorem goes_nil0 {x : Operand} {fl : Bool} {sz base : Nat} {S' : St} (ho : o.op = .assign x) (hW : WRel w0 M R S g w) (hv : VRel S g (stab w0 R) (.nil fl sz) (a.eval x))
    (hn : S.new base { ver := 0, sz, box := false, fl, elems := [] } = some S') : Goes P w0 M R S g a w o S' (.sl 0 base 0 [] 0 0) := by
  have he := hv.nil_inv
  exact ⟨.slice none 0 0, w, _, by unfold execOp; simp [ho, he], hW.newEmpty hn rfl, Ext.empty hn, vrel_newEmpty hn rfl rfl _⟩

theorem goes_pick {c x y : Operand} {t : Bool} (ho : o.op = .pick c x y) (hW : WRel w0 M R S g w) (hc : a.eval c = .bool t) {v : AV} (hv : VRel S g (stab w0 R) v (if t then a.eval x else a.eval y)) : Goes P w0 M R S g a w o S v :=
  goes_same hW (by unfold execOp; simp [ho, hc, asBool]) hv

/-! ### Blocks of one's own: variables -/
theorem addNews_cons {s : Nat} {b : Blk} {r : List (Nat × Blk)} {S' : St} (h : addNews S ((s, b) :: r) = some S') : ∃ S1, S.new s b = some S1 ∧ addNews S1 r = some S' := by
  simp only [addNews] at h
  split at h
  · rename_i S1 h1; exact ⟨S1, h1, h⟩
  · cases h
theorem addNews_append {l r : List (Nat × Blk)} : ∀ {S S' : St}, addNews S (l ++ r) = some S' → ∃ S1, addNews S l = some S1 ∧ addNews S1 r = some S' := by
  induction l with
  | nil => intro S S' h; exact ⟨S, rfl, h⟩
  | cons x l ih =>
    intro S S' h
    obtain ⟨s, b⟩ := x
    obtain ⟨S1, h1, h2⟩ := addNews_cons h
    obtain ⟨S2, h3, h4⟩ := ih h2
    exact ⟨S2, by simp only [addNews, h1]; exact h3, h4⟩
theorem addNews_one {s : Nat} {b : Blk} {S' : St} (h : addNews S [(s, b)] = some S') : S.new s b = some S' := by
  obtain ⟨S1, h1, h2⟩ := addNews_cons h
  simp [addNews] at h2; subst h2; exact h1
theorem addNews_tmps : ∀ {l : List (Nat × Blk)} {S S' : St}, addNews S l = some S' → S'.tmps = S.tmps ∧ S'.ext = S.ext
  | [], S, S', h => by simp [addNews] at h; subst h; exact ⟨rfl, rfl⟩
  | (s, b) :: r, S, S', h => by
    obtain ⟨S1, h1, h2⟩ := addNews_cons h
    obtain ⟨e1, e2⟩ := addNews_tmps h2
    exact ⟨e1.trans (new_tmps h1), e2.trans (new_ext h1)⟩

/-- The cells of a variable, its nil slices at places of their own: the machine's memory has not changed. -/
theorem boxCells_rel : ∀ {cs : List AV} {base : Nat} {cs' : List AV} {n : List (Nat × Blk)} {S S' : St} {g : G} {cvs : Nat → Value}, boxCells base cs = some (cs', n) → addNews S n = some S' → WRel w0 M R S g w →
    (∀ i v, cs[i]? = some v → VRel S g (stab w0 R) v (cvs i)) → ∃ g', WRel w0 M R S' g' w ∧ Ext S g S' g' ∧ g'.κ = g.κ ∧ cs'.length = cs.length ∧ ∀ i v, cs'[i]? = some v → VRel S' g' (stab w0 R) v (cvs i) ∧ (∀ fl xs, v ≠ .own fl xs)
  | [], base, cs', n, S, S', g, cvs, h, hn, hW, hv => by
    simp [boxCells] at h; obtain ⟨rfl, rfl⟩ := h
    simp [addNews] at hn; subst hn
    exact ⟨g, hW, .refl _ _, rfl, rfl, fun i v h => by simp at h⟩
  | v :: r, base, cs', n, S, S', g, cvs, h, hn, hW, hv => by
    simp only [boxCells] at h
    split at h
    · rename_i r' n' hr
      have plain : v.cells ≠ none ∨ True → (∀ fl xs, v ≠ .own fl xs) → some (v :: r', n') = some (cs', n) → ∃ g', WRel w0 M R S' g' w ∧ Ext S g S' g' ∧ g'.κ = g.κ ∧ cs'.length = (v :: r).length ∧ ∀ i u, cs'[i]? = some u → VRel S' g' (stab w0 R) u (cvs i) ∧ (∀ fl xs, u ≠ .own fl xs) := by
        intro _ hown he
        simp at he; obtain ⟨rfl, rfl⟩ := he
        obtain ⟨g', h1, h2, h3, h4, h5⟩ := boxCells_rel (cvs := fun i => cvs (i + 1)) hr hn hW (fun i v h => hv (i + 1) v (by simpa using h))
        refine ⟨g', h1, h2, h3, by simp [h4], fun i u hu => ?_⟩
        cases i with
        | zero => simp at hu; subst hu; exact ⟨(hv 0 v (by simp)).mono h2, hown⟩
        | succ i => exact h5 i u (by simpa using hu)
      cases v with
      | nil fl sz =>
        simp at h; obtain ⟨rfl, rfl⟩ := h
        obtain ⟨S1, hs1, hn1⟩ := addNews_cons hn
        have hW1 := hW.newEmpty hs1 rfl
        have he1 : Ext S g S1 _ := Ext.empty hs1
        obtain ⟨g', h1, h2, h3, h4, h5⟩ := boxCells_rel (cvs := fun i => cvs (i + 1)) hr hn1 hW1 (fun i v h => (hv (i + 1) v (by simpa using h)).mono he1)
        refine ⟨g', h1, he1.trans h2, h3, by simp [h4], fun i u hu => ?_⟩
        cases i with
        | zero =>
          simp at hu; subst hu
          have hz := (hv 0 (.nil fl sz) (by simp)).nil_inv
          rw [hz]
          exact ⟨(vrel_newEmpty hs1 rfl rfl _).mono h2, by simp⟩
        | succ i => exact h5 i u (by simpa using hu)
      | own fl xs => simp at h
      | _ => exact plain (.inr trivial) (by simp) (by simpa using h)
    · cases h

/-- A variable of the call's own. -/
theorem newBox {cs : List AV} {s : Nat} {ty : TypeId} {arr : Array Value} {S' : St} {g : G} (hW : WRel w0 M R S g w)
    (hn : S.new s { ver := 0, sz := cs.length, box := true, fl := false, elems := [cs] } = some S') (hne : cs ≠ []) (hl : cs.length = arr.size)
    (hv : ∀ i v, cs[i]? = some v → VRel S g (stab w0 R) v (arr.getD i undef) ∧ ∀ fl xs, v ≠ .own fl xs) :
    ∃ g', WRel w0 M R S' g' (w.alloc (.cells arr ty)) ∧ Ext S g S' g' ∧ VRel S' g' (stab w0 R) (.ptr 0 s 0 [] 0 0) (.pointer (some ⟨w.heap.size, 0, none⟩)) := by
  let t : Path → Option Nat := fun p => if p = [] then some w.heap.size else none
  let κ : Nat → Nat := fun B => if B = w.heap.size then arr.size else g.κ B
  have hκ : ∀ lv s p B, g.θ lv s p = some B → κ B = g.κ B := fun lv s p B hB => by
    have := hW.rng lv s p B hB
    simp only [κ]; rw [if_neg (by omega)]
  have hW' : WRel w0 M R S g (w.alloc (.cells arr ty)) := hW.world rfl rfl rfl (by simp) fun B hB => Below.heap_alloc w _ B hB
  have he := Ext.new (g := g) hn t hκ
  have hpos : 0 < cs.length := List.length_pos_iff.2 hne
  refine ⟨g.add s t κ, ?_, he, ?_⟩
  · refine hW'.extend hn t κ hκ (fun p B hB => ?_) (fun p q B h1 h2 => ?_) fun p ys hp => ?_
    · simp only [t] at hB
      split at hB
      · cases hB
        exact ⟨hW.size, by simp, fun lv s p h => by have := hW.rng lv s p _ h; omega⟩
      · cases hB
    · simp only [t] at h1 h2
      split at h1 <;> split at h2 <;> simp_all
    · have hp0 : p = [] ∧ ys = [cs] := by
        cases p with
        | nil => simpa [navE] using hp.symm
        | cons x r =>
          obtain ⟨i, c⟩ := x
          exfalso
          simp only [navE] at hp
          split at hp
          · rename_i fl zs hz
            unfold cellAt at hz
            cases i with
            | zero => simp at hz; exact (hv c _ hz).2 _ _ rfl
            | succ i => simp at hz
          · cases hp
      obtain ⟨rfl, rfl⟩ := hp0
      refine ⟨fun r hr => by simp at hr; subst hr; rfl, fun _ => hpos, ?_⟩
      rw [add_θ, if_pos ⟨rfl, rfl⟩]
      simp only [t, if_true]
      refine ⟨arr, ty, (0, 0), heap_alloc_new w _, ⟨fun o ho => by simp, .inl rfl⟩, by simp [G.add, κ], by simp [csz, hl], fun i c v hv' => ?_⟩
      unfold cellAt at hv'
      cases i with
      | succ i => simp at hv'
      | zero =>
        simp at hv'
        obtain ⟨h1, h2⟩ := hv c v hv'
        have hc : c < cs.length := (List.getElem?_eq_some_iff.1 hv').1
        refine ⟨arr.getD c undef, by simp [csz]; rw [Array.getElem?_eq_getElem (by omega)]; simp [show c < arr.size by omega], ?_⟩
        have h1' := h1.mono he
        rw [← mapR_up0 v] at h1'
        cases v <;> first | exact absurd rfl (h2 _ _) | exact ⟨h1', fun h => by cases h⟩
  · have hb := new_blk hn 0 s
    rw [if_pos ⟨rfl, rfl⟩] at hb
    refine .ptr _ _ _ _ _ _ _ ⟨_, blk_get hb, fun b' h => by cases h; exact Nat.le_refl _⟩ ⟨_, rfl⟩ fun b' ys hat => ?_
    obtain ⟨h1, h2, h3⟩ := at_blk hat
    exact ⟨fun h => absurd rfl h, w.heap.size, by rw [add_θ, if_pos ⟨rfl, rfl⟩]; rfl, by simp⟩
end
end Go.Ae
namespace Go.Ae
open Go.RowKit
set_option linter.unusedVariables false
set_option linter.unusedSimpArgs false
section
variable {P : Program} {w w0 : World} {M : Nat → Nat → Path → Option Nat} {R : Nat → Prop} {S : St} {g : G} {a : Act} {o : Oper}

theorem box_common {ty : TypeId} {arr : Array Value} {ws : List AV} {base : Nat} {cs : List AV} {n : List (Nat × Blk)} {S' : St} (hW : WRel w0 M R S g w)
    (hv : ws.length = arr.size ∧ ∀ (i : Nat) (u : AV), ws[i]? = some u → VRel S g (stab w0 R) u (arr.getD i undef)) (hb : boxCells (base + 1) ws = some (cs, n)) (hne : cs.isEmpty = false)
    (hn : addNews S (n ++ [(base, { ver := 0, sz := cs.length, box := true, fl := false, elems := [cs] })]) = some S') :
    ∃ g', WRel w0 M R S' g' (w.alloc (.cells arr ty)) ∧ Ext S g S' g' ∧ VRel S' g' (stab w0 R) (.ptr 0 base 0 [] 0 0) (.pointer (some ⟨w.heap.size, 0, none⟩)) := by
  obtain ⟨S1, h1, h2⟩ := addNews_append hn
  obtain ⟨g1, a1, a2, a3, a4, a5⟩ := boxCells_rel (cvs := fun i => arr.getD i undef) hb h1 hW hv.2
  obtain ⟨g2, b1, b2, b3⟩ := newBox (ty := ty) (arr := arr) a1 (addNews_one h2) (by intro h; rw [h] at hne; cases hne) (by rw [a4, hv.1]) a5
  exact ⟨g2, b1, a2.trans b2, b3⟩

theorem goes_box {ty : TypeId} {x : Operand} {v : AV} {ws : List AV} {base : Nat} {cs : List AV} {n : List (Nat × Blk)} {S' : St} (ho : o.op = .box ty x) (hW : WRel w0 M R S g w)
    (hv : VRel S g (stab w0 R) v (a.eval x)) (hc : v.cells = some ws) (hb : boxCells (base + 1) ws = some (cs, n)) (hne : cs.isEmpty = false)
    (hn : addNews S (n ++ [(base, { ver := 0, sz := cs.length, box := true, fl := false, elems := [cs] })]) = some S') : Goes P w0 M R S g a w o S' (.ptr 0 base 0 [] 0 0) := by
  obtain ⟨g', h1, h2, h3⟩ := box_common (ty := ty) hW (cells_rel hv hc) hb hne hn
  exact ⟨_, _, g', run_of_value (s := Instr.box ty (a.eval x)) (by unfold execOp; simp only [ho]) (by simp [Instr.box, newVar, newRow]), h1, h2, h3⟩

theorem goes_alloc {ty : TypeId} {z : Value} {ws : List AV} {base : Nat} {cs : List AV} {n : List (Nat × Blk)} {S' : St} {inf : TypeInfo} (ho : o.op = .alloc ty) (hW : WRel w0 M R S g w)
    (hi : P.info? ty = some inf) (hz : inf.zero = some z) (hok : zerosOk ws z.cells.toList = true) (hb : boxCells (base + 1) ws = some (cs, n)) (hne : cs.isEmpty = false)
    (hn : addNews S (n ++ [(base, { ver := 0, sz := cs.length, box := true, fl := false, elems := [cs] })]) = some S') : Goes P w0 M R S g a w o S' (.ptr 0 base 0 [] 0 0) := by
  obtain ⟨z1, z2⟩ := zeros_rel (S := S) (g := g) (cell := stab w0 R) hok
  obtain ⟨g', h1, h2, h3⟩ := box_common (ty := ty) (arr := z.cells) hW ⟨by simpa using z1, fun i u hu => by
    obtain ⟨cv, c1, c2⟩ := z2 i u hu
    rw [Array.getElem?_toList] at c1
    simpa [c1] using c2⟩ hb hne hn
  exact ⟨_, _, g', run_of_value (s := Instr.alloc ty true (.tuple #[])) (by unfold execOp; simp only [ho]) (by simp [Instr.alloc, zeroValue, typeInfo, hi, hz, newVar, newRow]), h1, h2, h3⟩

/-! ### Reading memory -/
theorem blk_cell' {w : World} {B : Nat} {arr : Array Value} {ty : TypeId} {fz : Nat × Nat} (h : w.heap[B]? = some (.cells arr ty fz)) (i : Nat) : w.cell? ⟨B, i, none⟩ = arr[i]? := by simp [World.cell?, h]

/-- What a cell says, as it is handed on. -/
def outV (lv s ver : Nat) (p : Path) (i c : Nat) (v : AV) : AV := match v with | .own _ ys => .sl lv s ver (p ++ [(i, c)]) 0 ys.length | v => v.mapR (upR lv)
theorem outCells_get {lv s ver : Nat} {p : Path} {i : Nat} : ∀ (c : Nat) (vs : List AV) (j : Nat) (v : AV), vs[j]? = some v →
    (outCells lv s ver p i c vs)[j]? = some (outV lv s ver p i (c + j) v)
  | c, [], j, v, h => by simp at h
  | c, u :: r, j, v, h => by
    cases j with
    | zero =>
      simp at h; subst h
      cases u <;> simp [outCells, outV]
    | succ j =>
      have := outCells_get (lv := lv) (s := s) (ver := ver) (p := p) (i := i) (c + 1) r j v (by simpa using h)
      have e : c + 1 + j = c + (j + 1) := by omega
      rw [e] at this
      cases u <;> simpa [outCells] using this
theorem outCells_length {lv s ver : Nat} {p : Path} {i : Nat} : ∀ (c : Nat) (vs : List AV), (outCells lv s ver p i c vs).length = vs.length
  | c, [] => rfl
  | c, v :: r => by cases v <;> simp [outCells, outCells_length]

theorem navE_append : ∀ {p q : Path} {xs ys zs : List (List AV)}, navE xs p = some ys → navE ys q = some zs → navE xs (p ++ q) = some zs
  | [], q, xs, ys, zs, h1, h2 => by simp [navE] at h1; subst h1; simpa using h2
  | (i, c) :: p, q, xs, ys, zs, h1, h2 => by
    simp only [navE] at h1
    simp only [List.cons_append, navE]
    cases hu : cellAt xs i c with
    | none => simp [hu] at h1
    | some v =>
      cases v <;> simp only [hu] at h1 ⊢ <;> first | exact navE_append h1 h2 | cases h1
theorem cellAt_row {ys : List (List AV)} {i c : Nat} {row : List AV} (h : ys[i]? = some row) : cellAt ys i c = row[c]? := by simp [cellAt, h]

theorem rowSz_of {xs : List (List AV)} {n : Nat} (h : ∀ r ∈ xs, r.length = n) (hne : xs ≠ []) : rowSz xs = n := by
  cases xs with
  | nil => exact absurd rfl hne
  | cons r _ => exact h r (by simp)
theorem csz_row {b : Blk} {p : Path} {ys : List (List AV)} {i : Nat} {row : List AV} (h : ∀ r ∈ ys, r.length = csz b.sz p ys) (hi : ys[i]? = some row) : row.length = csz b.sz p ys := h row (List.mem_of_getElem? hi)

/-- A cell that is read, as a value. -/
theorem krel_out {lv s ver : Nat} {b : Blk} {p : Path} {ys : List (List AV)} {i c : Nat} {v : AV} {cv : Value} (hW : WRel w0 M R S g w) (hat : S.at lv s ver p = some (b, ys)) (hc : cellAt ys i c = some v)
    (hk : KRel (stab w0 R) S g lv s b p i c v cv) : VRel S g (stab w0 R) (outV lv s ver p i c v) cv := by
  obtain ⟨hb, hver, hn⟩ := at_blk hat
  cases v
  case own fl zs =>
    obtain ⟨k1, k2, k3, A, cap, rfl, k4, k5⟩ := hk
    refine .sl _ _ _ _ _ _ _ ⟨some b, blk_get hb, fun b' h => by cases h; omega⟩ ⟨_, _, _, rfl⟩ fun b' ys' hat' => ?_
    obtain ⟨hb', _, hn'⟩ := at_blk hat'
    rw [hb] at hb'; cases hb'
    have hnav : navE b.elems (p ++ [(i, c)]) = some zs := navE_append hn (by simp [navE, hc])
    rw [hnav] at hn'; cases hn'
    refine ⟨A, cap, rfl, k4, by simp, fun _ => ?_⟩
    cases hB : g.θ lv s (p ++ [(i, c)]) with
    | none => rw [hB] at k5; exact k5
    | some B => rw [hB] at k5; exact ⟨by simpa using k5, fun h => by simp at h⟩
  all_goals exact hk.1

/-- The cells at an address of one's own. -/
theorem own_cells {lv s ver : Nat} {b : Blk} {p : Path} {ys : List (List AV)} {i c n : Nat} {row : List AV} {cv : Value} (hW : WRel w0 M R S g w) (hat : S.at lv s ver p = some (b, ys)) (hi : ys[i]? = some row)
    (hl : c + n ≤ row.length) (hp : PtrRel g lv s p b ys i c cv) : ∃ B arr ty fz, cv = .pointer (some ⟨B, i * csz b.sz p ys + c, none⟩) ∧ g.θ lv s p = some B ∧ w.heap[B]? = some (.cells arr ty fz) ∧ Free fz arr.size ∧ arr.size = g.κ B ∧
      row.length = csz b.sz p ys ∧ ys.length * csz b.sz p ys ≤ arr.size ∧ i * csz b.sz p ys + row.length ≤ arr.size ∧ ∀ j v, j < n → row[c + j]? = some v → ∃ u, arr[i * csz b.sz p ys + (c + j)]? = some u ∧ KRel (stab w0 R) S g lv s b p i (c + j) v u := by
  obtain ⟨hb, hver, hn⟩ := at_blk hat
  obtain ⟨_, B, hB, rfl⟩ := hp
  obtain ⟨c1, c2, c3⟩ := hW.cont lv s b p ys hb hn
  rw [hB] at c3
  obtain ⟨arr, ty, fz, a1, a2, a3, a4, a5⟩ := c3
  have hrow := csz_row c1 hi
  have hilt : i < ys.length := (List.getElem?_eq_some_iff.1 hi).1
  have hmul : i * csz b.sz p ys + row.length ≤ arr.size := by
    have : (i + 1) * csz b.sz p ys ≤ ys.length * csz b.sz p ys := Nat.mul_le_mul_right _ hilt
    rw [Nat.add_mul, Nat.one_mul] at this
    omega
  exact ⟨B, arr, ty, fz, rfl, hB, a1, a2.1, a3, hrow, a4, hmul, fun j v hj hv => a5 i (c + j) v (by rw [cellAt_row hi]; exact hv)⟩

theorem ofCells_rel {ag : Bool} {vs : List AV} {v : AV} {cell : Addr → Option Value} {us : Array Value} (h : AV.ofCells ag vs = some v) (hl : vs.length = us.size) (hr : ∀ i u, vs[i]? = some u → VRel S g cell u (us.getD i undef)) :
    VRel S g cell v (if ag then .agg us else us.getD 0 undef) := by
  unfold AV.ofCells at h
  cases ag with
  | true => simp at h; subst h; exact .agg vs us hl hr
  | false =>
    simp at h
    split at h
    · cases h; simpa using hr 0 v (by simp)
    · cases h

theorem run_loadVar {t : TypeId} {inf : TypeInfo} {ag : Bool} {ad : Addr} {us : Array Value} (hi : P.info? t = some inf) (hag : aggT P t = some ag) (h1 : ag = true ∨ inf.size = 1) (hs : us.size = inf.size)
    (hc : ∀ j, j < us.size → w.cell? (ad.add j) = some (us.getD j undef)) : (loadVar t ad).run P w = .ok (if ag then .agg us else us.getD 0 undef) w := by
  have hu : ∃ d, P.underlying t = some d ∧ (isAgg t).run P w = .ok ag w := by
    unfold aggT at hag
    cases hd : P.underlying t with
    | none => simp [hd] at hag
    | some d =>
      refine ⟨d, rfl, ?_⟩
      simp only [isAgg, Sem.run_bind, run_underlying hd, Result.andThen_ok]
      cases d <;> simp [hd] at hag <;> subst hag <;> rfl
  obtain ⟨d, hd, hag'⟩ := hu
  unfold loadVar
  simp only [Sem.run_bind, hag', Result.andThen_ok]
  cases ag with
  | true =>
    have hl := run_loadCells (P := P) w ad inf.size (fun j => us.getD j undef) (fun j hj => hc j (by omega))
    have he : ((List.range inf.size).map fun j => us.getD j undef).toArray = us := by
      apply Array.ext
      · simp [hs]
      · intro j h1 h2; simp [h2]
    rw [he] at hl
    simp [sizeOf, typeInfo, hi, hl]
  | false =>
    have := hc 0 (by have := h1.resolve_left (by simp); omega)
    have h0 : ad.add 0 = ad := by simp [Addr.add]
    rw [h0] at this
    simp [this]

theorem getD_of {arr : Array Value} {i : Nat} {u : Value} (h : arr[i]? = some u) : arr.getD i undef = u := by simp [h]

theorem goes_load_own {t : TypeId} {x : Operand} {inf : TypeInfo} {ag : Bool} {lv s ver : Nat} {p : Path} {i c : Nat} {b : Blk} {ys : List (List AV)} {row : List AV} {v : AV} (ho : o.op = .load t x) (hW : WRel w0 M R S g w)
    (hi : P.info? t = some inf) (hag : aggT P t = some ag) (h1 : ag = true ∨ inf.size = 1) (hv : VRel S g (stab w0 R) (.ptr lv s ver p i c) (a.eval x)) (hat : S.at lv s ver p = some (b, ys)) (hrow : ys[i]? = some row)
    (hl : c + inf.size ≤ row.length) (hof : AV.ofCells ag (outCells lv s ver p i c ((row.drop c).take inf.size)) = some v) : Goes P w0 M R S g a w o S v := by
  obtain ⟨B, arr, ty, fz, he, hB, a1, a2, a3, a4, a5, a6, a7⟩ := own_cells hW hat hrow hl (hv.ptr_inv.2 b ys hat)
  let us : Array Value := arr.extract (i * csz b.sz p ys + c) (i * csz b.sz p ys + c + inf.size)
  have hsz : us.size = inf.size := by simp [us]; omega
  have hget : ∀ j, j < inf.size → us.getD j undef = arr.getD (i * csz b.sz p ys + (c + j)) undef := by
    intro j hj
    have e1 : i * csz b.sz p ys + (c + j) = i * csz b.sz p ys + c + j := by omega
    have : i * csz b.sz p ys + c + j < arr.size := by omega
    simp [us, e1, hsz, hj, this, Array.getElem_extract]
  have hvals : VRel S g (stab w0 R) v (if ag then .agg us else us.getD 0 undef) := by
    refine ofCells_rel hof (by rw [outCells_length, hsz]; simp; omega) fun j u hu => ?_
    have hj : j < inf.size := by
      have := (List.getElem?_eq_some_iff.1 hu).1
      rw [outCells_length] at this; simp at this; omega
    have hrj : row[c + j]? = some (row[c + j]'(by omega)) := List.getElem?_eq_getElem _
    obtain ⟨u', hu', hk⟩ := a7 j _ hj hrj
    have hout := outCells_get (lv := lv) (s := s) (ver := ver) (p := p) (i := i) c ((row.drop c).take inf.size) j _ (by simp [List.getElem?_take, hj]; exact hrj)
    rw [hout] at hu
    rw [hget j hj, getD_of hu']
    have := krel_out hW hat (by rw [cellAt_row hrow]; exact hrj) hk
    have hu2 := Option.some.inj hu
    rw [← hu2]
    exact this
  refine goes_same (cv := if ag then .agg us else us.getD 0 undef) hW (run_of_value (s := Instr.loadAt t (a.eval x)) (by unfold execOp; simp only [ho]) ?_) hvals
  rw [he]
  simp only [Instr.loadAt, Instr.sureAddr, Sem.run_bind, Sem.run_pure, Result.andThen_ok]
  refine run_loadVar hi hag h1 hsz fun j hj => ?_
  rw [hsz] at hj
  rw [Addr.add_lit, blk_cell' a1, hget j hj]
  have : i * csz b.sz p ys + c + j < arr.size := by omega
  have e1 : i * csz b.sz p ys + (c + j) = i * csz b.sz p ys + c + j := by omega
  simp [e1, this]
end
end Go.Ae
namespace Go.Ae
open Go.RowKit
set_option linter.unusedVariables false
set_option linter.unusedSimpArgs false
section
variable {P : Program} {w w0 : World} {M : Nat → Nat → Path → Option Nat} {R : Nat → Prop} {S : St} {g : G} {a : Act} {o : Oper}

/-- What is read only: its cells lie in the world as it is. -/
structure RdW (w0 : World) (M : Nat → Nat → Path → Option Nat) (R : Nat → Prop) : Prop where
  r : ∀ B, R B → B < w0.heap.size ∧ ∀ lv s p, M lv s p ≠ some B
theorem stab_cell (hR : RdW w0 M R) (hW : WRel w0 M R S g w) {ad : Addr} {v : Value} (h : stab w0 R ad = some v) : w.cell? ad = some v := by
  unfold stab at h
  split at h
  · rename_i hr
    obtain ⟨h1, h2⟩ := hR.r _ hr
    unfold World.cell? at h ⊢
    rw [hW.keep _ h1 h2]
    exact h
  · cases h

theorem goes_load_rd {t : TypeId} {x : Operand} {inf : TypeInfo} {ag : Bool} {cs : List AV} {v : AV} (ho : o.op = .load t x) (hR : RdW w0 M R) (hW : WRel w0 M R S g w)
    (hi : P.info? t = some inf) (hag : aggT P t = some ag) (h1 : ag = true ∨ inf.size = 1) (hv : VRel S g (stab w0 R) (.rptr cs) (a.eval x)) (hl : inf.size ≤ cs.length)
    (hof : AV.ofCells ag (cs.take inf.size) = some v) : Goes P w0 M R S g a w o S v := by
  generalize hx : a.eval x = cv at hv
  cases hv.rptr_inv with
  | rptr ad cs f hc hr =>
    let us : Array Value := ((List.range inf.size).map f).toArray
    have hsz : us.size = inf.size := by simp [us]
    have hget : ∀ j, j < inf.size → us.getD j undef = f j := fun j hj => by simp [us, hj]
    have hvals : VRel S g (stab w0 R) v (if ag then .agg us else us.getD 0 undef) := by
      refine ofCells_rel hof (by rw [hsz]; simp; omega) fun j u hu => ?_
      have hj : j < inf.size := by have := (List.getElem?_eq_some_iff.1 hu).1; simp at this; omega
      rw [hget j hj]
      have hu' : cs[j]? = some u := by simpa [List.getElem?_take, hj] using hu
      exact (hr j u hu').vrel
    refine goes_same (cv := if ag then .agg us else us.getD 0 undef) hW (run_of_value (s := Instr.loadAt t (a.eval x)) (by unfold execOp; simp only [ho]) ?_) hvals
    rw [hx]
    simp only [Instr.loadAt, Instr.sureAddr, Sem.run_bind, Sem.run_pure, Result.andThen_ok]
    refine run_loadVar hi hag h1 hsz fun j hj => ?_
    rw [hsz] at hj
    rw [hget j hj]
    exact stab_cell hR hW (hc j _ (List.getElem?_eq_getElem (by omega)))

theorem goes_nilck_ptr {x : Operand} {lv s ver : Nat} {p : Path} {i c : Nat} {b : Blk} {ys : List (List AV)} (ho : o.op = .nilCheck x) (hW : WRel w0 M R S g w) (hv : VRel S g (stab w0 R) (.ptr lv s ver p i c) (a.eval x))
    (hat : S.at lv s ver p = some (b, ys)) : Goes P w0 M R S g a w o S (.ptr lv s ver p i c) := by
  obtain ⟨_, B, hB, he⟩ := hv.ptr_inv.2 b ys hat
  exact goes_same hW (by unfold execOp; simp [ho, he]) hv
theorem goes_nilck_rptr {x : Operand} {cs : List AV} (ho : o.op = .nilCheck x) (hW : WRel w0 M R S g w) (hv : VRel S g (stab w0 R) (.rptr cs) (a.eval x)) : Goes P w0 M R S g a w o S (.rptr cs) := by
  generalize hx : a.eval x = cv at hv
  cases hv.rptr_inv with
  | rptr ad cs f hc hr => exact goes_same (cv := .pointer (some ad)) hW (by unfold execOp; simp [ho, hx]) hv
theorem goes_nilck_fn {x : Operand} {f : Nat} {cs : List AV} (ho : o.op = .nilCheck x) (hW : WRel w0 M R S g w) (hv : VRel S g (stab w0 R) (.fn f cs) (a.eval x)) : Goes P w0 M R S g a w o S (.fn f cs) := by
  obtain ⟨arr, he, _⟩ := hv.fn_inv
  exact goes_same hW (by unfold execOp; simp [ho, he]) hv

theorem goes_bin {op : BinOp} {xt yt : TypeId} {x y : Operand} {u v r : AV} (ho : o.op = .binOp op xt x y yt) (hW : WRel w0 M R S g w) (hu : VRel S g (stab w0 R) u (a.eval x)) (hv : VRel S g (stab w0 R) v (a.eval y))
    (he : evalBin op u v = some r) : Goes P w0 M R S g a w o S r := by
  have guard : (eqGuard op xt x y (a.eval x) (a.eval y)).run P w = .ok () w := by
    unfold evalBin at he
    unfold eqGuard
    split at he
    · rw [hu.int_inv, hv.int_inv]; cases op <;> simp
    · rw [hu.str_inv, hv.str_inv]; cases op <;> simp
    · cases he
  suffices h : ∃ cv, (binOp op xt (a.eval x) (a.eval y)).run P w = .ok cv w ∧ VRel S g (stab w0 R) r cv by
    obtain ⟨cv, h1, h2⟩ := h
    exact goes_same hW (run_of_value (s := do eqGuard op xt x y (a.eval x) (a.eval y); binOp op xt (a.eval x) (a.eval y)) (by unfold execOp; simp only [ho]) (by simp [guard, h1])) h2
  unfold evalBin at he
  split at he
  · rename_i k m k' n
    rw [hu.int_inv, hv.int_inv]
    cases op
    case shl =>
      simp only at he
      split at he
      · rename_i h0; cases he
        exact ⟨.int k (k.wrap (m * 2 ^ (Nat.min n.toNat k.bits))), by simp only [binOp, Op.shift, if_neg (show ¬ n < 0 by omega)]; rfl, .int _ _⟩
      · cases he
    case shr =>
      simp only at he
      split at he
      · rename_i h0; cases he
        exact ⟨.int k (m.fdiv (2 ^ (Nat.min n.toNat k.bits))), by simp only [binOp, Op.shift, if_neg (show ¬ n < 0 by omega)]; rfl, .int _ _⟩
      · cases he
    all_goals
      simp only at he
      split at he
      · rename_i hk; subst hk
        first
          | (cases he; done)
          | (cases he; exact ⟨_, by simp only [binOp, Op.intArith, Op.intBits, Op.intCmp, ne_eq, not_true_eq_false, if_false]; rfl, by constructor⟩)
          | (split at he
             · cases he
             · rename_i h0; cases he; exact ⟨_, by simp only [binOp, Op.intDiv, h0, ne_eq, not_true_eq_false, if_false]; rfl, by constructor⟩)
      · cases he
  · rename_i s t
    rw [hu.str_inv, hv.str_inv]
    cases op <;> simp only at he <;> first
      | (cases he; done)
      | (cases he; exact ⟨_, by simp only [binOp, Op.stringOp]; rfl, by constructor⟩)
      | (split at he
         · cases he
         · rename_i h0; cases he; exact ⟨_, by simp only [binOp, Op.stringOp, if_neg h0]; rfl, .str _⟩)
  · cases he

theorem goes_not {t : TypeId} {x : Operand} {b : Bool} (ho : o.op = .unOp .not t x) (hW : WRel w0 M R S g w) (hv : VRel S g (stab w0 R) (.bool b) (a.eval x)) : Goes P w0 M R S g a w o S (.bool (!b)) :=
  goes_same (cv := .bool (!b)) hW (run_of_value (s := Op.unary .not (a.eval x)) (by unfold execOp; simp only [ho]) (by simp [Op.unary, hv.bool_inv])) (.bool _)
theorem goes_neg {t : TypeId} {x : Operand} {k : IntKind} {n : Int} (ho : o.op = .unOp .neg t x) (hW : WRel w0 M R S g w) (hv : VRel S g (stab w0 R) (.int k n) (a.eval x)) : Goes P w0 M R S g a w o S (.int k (k.wrap (0 - n))) :=
  goes_same (cv := .int k (k.wrap (0 - n))) hW (run_of_value (s := Op.unary .neg (a.eval x)) (by unfold execOp; simp only [ho]) (by simp [Op.unary, hv.int_inv, Op.intArith])) (.int _ _)
theorem goes_conv {src dst : TypeId} {x : Operand} {k k' k0 : IntKind} {n : Int} (ho : o.op = .convert src dst x) (h1 : P.underlying src = some (.int k0)) (h2 : P.underlying dst = some (.int k)) (hW : WRel w0 M R S g w)
    (hv : VRel S g (stab w0 R) (.int k' n) (a.eval x)) : Goes P w0 M R S g a w o S (.int k (k.wrap n)) :=
  goes_same (cv := .int k (k.wrap n)) hW (run_of_value (s := convert src dst (a.eval x)) (by unfold execOp; simp only [ho]) (by simp [convert, run_underlying h1, run_underlying h2, hv.int_inv, Conv.intToInt])) (.int _ _)
theorem goes_strid {src dst : TypeId} {x : Operand} {s : ByteArray} (ho : o.op = .convert src dst x) (h1 : P.underlying src = some .string) (h2 : P.underlying dst = some .string) (hW : WRel w0 M R S g w)
    (hv : VRel S g (stab w0 R) (.str s) (a.eval x)) : Goes P w0 M R S g a w o S (.str s) :=
  goes_same (cv := .string s) hW (run_of_value (s := convert src dst (a.eval x)) (by unfold execOp; simp only [ho]) (by simp [convert, run_underlying h1, run_underlying h2, hv.str_inv])) (.str _)

theorem evalXs_rel {cell : Addr → Option Value} (hT : TRel S g cell a) : ∀ {l : List (Operand × TypeId)} {ys : List X}, cXs P l = some ys → (evalXs S ys).length = l.length ∧ ∀ (i : Nat) (v : AV), (evalXs S ys)[i]? = some v → ∃ x : Operand × TypeId, l[i]? = some x ∧ VRel S g cell v (a.eval x.1)
  | [], ys, h => by simp [cXs] at h; subst h; exact ⟨rfl, fun i v h => by simp [evalXs] at h⟩
  | (x, t) :: r, ys, h => by
    simp only [cXs] at h
    split at h
    · rename_i y ys' h1 h2
      cases h
      obtain ⟨a1, a2⟩ := evalXs_rel hT h2
      refine ⟨by simp [evalXs, a1], fun i v hv => ?_⟩
      cases i with
      | zero => simp [evalXs] at hv; subst hv; exact ⟨(x, t), by simp, evalX_rel h1 hT⟩
      | succ i => simpa using a2 i v (by simpa [evalXs] using hv)
    · cases h
theorem goes_mkf {f : Nat} {cap : Array Operand} {ys : List X} (ho : o.op = .makeFunc (.func f) #[] cap) (hW : WRel w0 M R S g w) (hT : TRel S g (stab w0 R) a) (hc : cXs P (cap.toList.map fun x => (x, 0)) = some ys) : Goes P w0 M R S g a w o S (.fn f (evalXs S ys)) := by
  obtain ⟨h1, h2⟩ := evalXs_rel hT hc
  refine goes_same (cv := .func (.func f) #[] (cap.map a.eval)) hW (run_of_value (s := Instr.makeFunc (.func f) ((#[] : Array Operand).map a.eval) (cap.map a.eval)) (by unfold execOp; simp only [ho]) (by simp [Instr.makeFunc])) ?_
  refine .fn f _ _ (by simp [h1]) fun i v hv => ?_
  obtain ⟨x, hx, hr⟩ := h2 i v hv
  simp at hx
  obtain ⟨y, hy, rfl⟩ := hx
  have : (cap.map a.eval).getD i undef = a.eval y := by simp [hy]
  rw [this]; exact hr

theorem bound_rel {d m : Nat} {v : Option AV} {n : Nat} (h : bound d m v = some n) : n ≤ m ∨ (v = none ∧ n = d) := by
  unfold bound at h
  split at h
  · cases h; exact .inr ⟨rfl, rfl⟩
  · split at h
    · cases h; rename_i n0 h0; exact .inl (by omega)
    · cases h
  · cases h
theorem run_bound {d m : Nat} {cell : Addr → Option Value} {x : Option X} {y : Option Operand} {n y0 : Nat} {code : BoundsCode} (hT : TRel S g cell a) (hc : cO P y = some x) (h : bound d m (evalO S x) = some n) (hm : m ≤ y0) (hd : d ≤ m) :
    (match y with | none => (pure d : Sem Nat) | some z => Instr.sliceBound (a.eval z) y0 code).run P w = .ok n w ∧ n ≤ m := by
  cases y with
  | none =>
    simp [cO] at hc; subst hc
    simp [evalO, bound] at h; subst h
    exact ⟨rfl, hd⟩
  | some z =>
    simp only [cO, Option.map_eq_some_iff] at hc
    obtain ⟨z', hz, rfl⟩ := hc
    have hr := evalX_rel (S := S) (g := g) (cell := cell) hz hT
    simp only [evalO] at h
    unfold bound at h
    split at h
    · rename_i hh; simp at hh
    · rename_i k n0 hh
      simp at hh
      rw [hh] at hr
      split at h
      · rename_i h0
        cases h
        refine ⟨?_, by omega⟩
        show (Instr.sliceBound (a.eval z) y0 code).run P w = _
        rw [hr.int_inv]
        simp only [Instr.sliceBound, asIntOf, Sem.run_bind, Sem.run_pure, Result.andThen_ok]
        rw [if_pos ⟨h0.1, by omega⟩]
        rfl
      · cases h
    · cases h
end
end Go.Ae
namespace Go.Ae
open Go.RowKit
set_option linter.unusedVariables false
set_option linter.unusedSimpArgs false
section
variable {P : Program} {w w0 : World} {M : Nat → Nat → Path → Option Nat} {R : Nat → Prop} {S : St} {g : G} {a : Act} {o : Oper}

theorem run_sizeOf' {t : TypeId} {i : TypeInfo} (h : P.info? t = some i) : (sizeOf t).run P w = .ok i.size w := by simp [sizeOf, typeInfo, h]

theorem run_sliceBounds {isS : Bool} {len cap h l : Nat} {lo hi : Option Operand} {lo' hi' : Option X} {cell : Addr → Option Value} (hT : TRel S g cell a) (h1 : cO P lo = some lo') (h2 : cO P hi = some hi') (hb : bound len len (evalO S hi') = some h)
    (lb : bound 0 h (evalO S lo') = some l) (hcap : len ≤ cap) : (Instr.sliceBounds isS len cap (lo.map a.eval) (hi.map a.eval) none).run P w = .ok (l, h, cap) w ∧ l ≤ h ∧ h ≤ len := by
  have e2 := run_bound (P := P) (w := w) (y0 := cap) (code := if isS then .sliceAcap else .sliceAlen) hT h2 hb hcap (Nat.le_refl _)
  have e1 := run_bound (P := P) (w := w) (y0 := h) (code := .sliceB) hT h1 lb (Nat.le_refl _) (Nat.zero_le _)
  refine ⟨?_, e1.2, e2.2⟩
  cases hi with
  | none =>
    have e2' := e2.1; simp at e2'; subst e2'
    cases lo with
    | none => have e1' := e1.1; simp at e1'; subst e1'; simp [Instr.sliceBounds]
    | some x => have e1' := e1.1; simp [Instr.sliceBounds]; simp at e1'; rw [e1']; rfl
  | some y =>
    have e2' := e2.1; simp at e2'
    cases lo with
    | none => have e1' := e1.1; simp at e1'; subst e1'; simp [Instr.sliceBounds]; rw [e2']; rfl
    | some x => have e1' := e1.1; simp at e1'; simp [Instr.sliceBounds]; rw [e2']; simp; rw [e1']; rfl

theorem goes_cut_sl {t e : TypeId} {inf : TypeInfo} {x : Operand} {lo hi : Option Operand} {lo' hi' : Option X} {lv s ver : Nat} {p : Path} {off len h l : Nat} {b : Blk} {ys : List (List AV)} (ho : o.op = .slice t x lo hi none) (ht : P.underlying t = some (.slice e)) (hi0 : P.info? e = some inf)
    (hW : WRel w0 M R S g w) (hT : TRel S g (stab w0 R) a) (hv : VRel S g (stab w0 R) (.sl lv s ver p off len) (a.eval x)) (hat : S.at lv s ver p = some (b, ys)) (hp0 : p = [] → b.sz = inf.size) (hp1 : p = [] ∨ (ys.all fun r => r.length == inf.size) = true)
    (h1 : cO P lo = some lo') (h2 : cO P hi = some hi') (hb : bound len len (evalO S hi') = some h) (lb : bound 0 h (evalO S lo') = some l) : Goes P w0 M R S g a w o S (.sl lv s ver p (off + l) (h - l)) := by
  obtain ⟨hk, hs⟩ := hv.sl_inv
  obtain ⟨A, cap, he, c1, c2, c3⟩ := hs b ys hat
  obtain ⟨e1, e2, e3⟩ := run_sliceBounds (P := P) (w := w) (isS := true) (cap := cap) hT h1 h2 hb lb c1
  have hrun : (Instr.sliceAt t (a.eval x) (lo.map a.eval) (hi.map a.eval) (none.map a.eval)).run P w = .ok (.slice (if cap = l then A else A.map (·.add (l * inf.size))) (h - l) (cap - l)) w := by
    rw [he]
    simp [Instr.sliceAt, Instr.slice, run_underlying ht, e1, run_sizeOf' hi0]
  refine goes_same hW (run_of_value (s := Instr.sliceAt t (a.eval x) (lo.map a.eval) (hi.map a.eval) (none.map a.eval)) (by unfold execOp; simp only [ho]) hrun) ?_
  refine .sl _ _ _ _ _ _ _ hk ⟨_, _, _, rfl⟩ fun b' ys' hat' => ?_
  rw [hat] at hat'; cases hat'
  refine ⟨_, _, rfl, by omega, by omega, fun hx => ?_⟩
  replace c3 := c3 (by rcases hx with hx | hx; exact .inl hx; right; omega)
  cases hB : g.θ lv s p with
  | none => rw [hB] at c3; obtain ⟨rfl, rfl⟩ := c3; simp
  | some B =>
    rw [hB] at c3
    obtain ⟨d1, d2⟩ := c3
    refine ⟨?_, fun hp => by have := d2 hp; have e : off + l + (cap - l) = off + cap := by omega
                             rw [e]; exact this⟩
    by_cases hcl : cap = l
    · left; omega
    · right
      rw [if_neg hcl]
      have hcs : csz b.sz p ys = inf.size ∨ l = 0 := by
        cases p with
        | nil => exact .inl (hp0 rfl)
        | cons q r =>
          have hp2 := hp1.resolve_left (by simp)
          by_cases hys : ys = []
          · subst hys; simp at c2; right; omega
          · left; exact rowSz_of (fun r hr => by simpa using List.all_eq_true.1 hp2 r hr) hys
      rcases d1 with d1 | d1
      · omega
      · rw [d1]
        simp only [Option.map_some, Addr.add_lit]
        congr 2
        rcases hcs with hcs | hcs
        · rw [hcs, Nat.add_mul]
        · subst hcs; simp

theorem run_sliceBounds3 {len cap h l : Nat} {mm : Int} {k : IntKind} {lo : Option Operand} {hi m : Operand} {lo' : Option X} {hi' m' : X} {cell : Addr → Option Value} (hT : TRel S g cell a) (h1 : cO P lo = some lo') (h2 : cX P 0 hi = some hi') (h3 : cX P 0 m = some m') (hm : evalX S m' = .int k mm) (h0 : 0 ≤ mm) (hmc : mm ≤ cap)
    (hb : bound 0 mm.toNat (some (evalX S hi')) = some h) (lb : bound 0 h (evalO S lo') = some l) : (Instr.sliceBounds true len cap (lo.map a.eval) (some (a.eval hi)) (some (a.eval m))).run P w = .ok (l, h, mm.toNat) w ∧ l ≤ h ∧ h ≤ mm.toNat := by
  have e3 := run_bound (P := P) (w := w) (a := a) (x := some m') (y := some m) (n := mm.toNat) (d := 0) (m := mm.toNat) (y0 := cap) (code := .slice3Acap) hT (by simp [cO, h3]) (by simp only [evalO, hm, bound]; rw [if_pos ⟨h0, by omega⟩]) (by omega) (Nat.zero_le _)
  have e2 := run_bound (P := P) (w := w) (a := a) (x := some hi') (y := some hi) (n := h) (d := 0) (m := mm.toNat) (y0 := mm.toNat) (code := .slice3B) hT (by simp [cO, h2]) hb (Nat.le_refl _) (Nat.zero_le _)
  have e1 := run_bound (P := P) (w := w) (y0 := h) (code := .slice3C) hT h1 lb (Nat.le_refl _) (Nat.zero_le _)
  refine ⟨?_, e1.2, e2.2⟩
  have e3' := e3.1
  have e2' := e2.1
  simp only at e3' e2'
  cases lo with
  | none => have e1' := e1.1; simp at e1'; subst e1'; simp [Instr.sliceBounds]; rw [e3']; simp; rw [e2']; rfl
  | some x => have e1' := e1.1; simp at e1'; simp [Instr.sliceBounds]; rw [e3']; simp; rw [e2']; simp; rw [e1']; rfl
theorem goes_cut3 {t e : TypeId} {inf : TypeInfo} {x : Operand} {lo : Option Operand} {hi m : Operand} {lo' : Option X} {hi' m' : X} {lv s ver : Nat} {off len h l : Nat} {k : IntKind} {mm : Int} {b : Blk} {ys : List (List AV)} (ho : o.op = .slice t x lo (some hi) (some m)) (ht : P.underlying t = some (.slice e)) (hi0 : P.info? e = some inf)
    (hW : WRel w0 M R S g w) (hT : TRel S g (stab w0 R) a) (hv : VRel S g (stab w0 R) (.sl lv s ver [] off len) (a.eval x)) (hat : S.at lv s ver [] = some (b, ys)) (hp0 : b.sz = inf.size)
    (h1 : cO P lo = some lo') (h2 : cX P 0 hi = some hi') (h3 : cX P 0 m = some m') (hm : evalX S m' = .int k mm) (h0 : 0 ≤ mm) (hmc : mm ≤ len) (hb : bound 0 mm.toNat (some (evalX S hi')) = some h) (lb : bound 0 h (evalO S lo') = some l) : Goes P w0 M R S g a w o S (.sl lv s ver [] (off + l) (h - l)) := by
  obtain ⟨hk, hs⟩ := hv.sl_inv
  obtain ⟨A, cap, he, c1, c2, c3⟩ := hs b ys hat
  obtain ⟨e1, e2, e3⟩ := run_sliceBounds3 (P := P) (w := w) (len := len) (cap := cap) hT h1 h2 h3 hm h0 (by omega) hb lb
  have hrun : (Instr.sliceAt t (a.eval x) (lo.map a.eval) ((some hi).map a.eval) ((some m).map a.eval)).run P w = .ok (.slice (if mm.toNat = l then A else A.map (·.add (l * inf.size))) (h - l) (mm.toNat - l)) w := by
    rw [he]
    simp [Instr.sliceAt, Instr.slice, run_underlying ht, e1, run_sizeOf' hi0]
  refine goes_same hW (run_of_value (s := Instr.sliceAt t (a.eval x) (lo.map a.eval) ((some hi).map a.eval) ((some m).map a.eval)) (by unfold execOp; simp only [ho]) hrun) ?_
  refine .sl _ _ _ _ _ _ _ hk ⟨_, _, _, rfl⟩ fun b' ys' hat' => ?_
  rw [hat] at hat'; cases hat'
  refine ⟨_, _, rfl, by omega, by omega, fun hx => ?_⟩
  replace c3 := c3 (.inl rfl)
  cases hB : g.θ lv s [] with
  | none => rw [hB] at c3; obtain ⟨rfl, rfl⟩ := c3; simp; omega
  | some B =>
    rw [hB] at c3
    obtain ⟨d1, d2⟩ := c3
    refine ⟨?_, fun hp => ?_⟩
    · by_cases hcl : mm.toNat = l
      · left; omega
      · right
        rw [if_neg hcl]
        rcases d1 with d1 | d1
        · omega
        · rw [d1]
          simp only [Option.map_some, Addr.add_lit, csz]
          congr 2
          rw [hp0, Nat.add_mul]
    · have := d2 rfl
      exact Nat.le_trans (Nat.mul_le_mul_right _ (by omega)) this
theorem getD_drop {xs : List (List AV)} {l h i c : Nat} {v : AV} (hv : cellAt ((xs.take h).drop l) i c = some v) : cellAt xs (l + i) c = some v ∧ l + i < h := by
  unfold cellAt at hv ⊢
  simp only [List.getElem?_drop, List.getElem?_take] at hv
  by_cases hlt : l + i < h
  · rw [if_pos hlt] at hv; exact ⟨hv, hlt⟩
  · rw [if_neg hlt] at hv; cases hv
theorem cellAt_mem {xs : List (List AV)} {i c : Nat} {v : AV} (h : cellAt xs i c = some v) : ∃ r ∈ xs, v ∈ r := by
  unfold cellAt at h
  split at h
  · rename_i r hr; exact ⟨r, List.mem_of_getElem? hr, List.mem_of_getElem? h⟩
  · cases h

theorem addr_add_add (ad : Addr) (m n : Nat) : (ad.add m).add n = ad.add (m + n) := by
  unfold Addr.add
  by_cases hm : m = 0
  · subst hm; simp
  · by_cases hn : n = 0
    · subst hn; simp [hm]
    · simp [hm, hn, Nat.add_assoc]
theorem goes_cut_rd {t e : TypeId} {inf : TypeInfo} {x : Operand} {lo hi : Option Operand} {lo' hi' : Option X} {fl : Bool} {ys : List (List AV)} {h l : Nat} (ho : o.op = .slice t x lo hi none) (ht : P.underlying t = some (.slice e)) (hi0 : P.info? e = some inf)
    (hW : WRel w0 M R S g w) (hT : TRel S g (stab w0 R) a) (hv : VRel S g (stab w0 R) (.rd fl ys) (a.eval x)) (hp1 : (ys.all fun r => r.length == inf.size) = true)
    (h1 : cO P lo = some lo') (h2 : cO P hi = some hi') (hb : bound ys.length ys.length (evalO S hi') = some h) (lb : bound 0 h (evalO S lo') = some l) : Goes P w0 M R S g a w o S (.rd fl ((ys.take h).drop l)) := by
  have hsize : ∀ r ∈ ys, r.length = inf.size := fun r hr => by simpa using List.all_eq_true.1 hp1 r hr
  generalize hx : a.eval x = cv at hv
  cases hv.rd_inv with
  | rd _ _ A cap sz f g1 g2 g3 g4 g5 =>
    obtain ⟨e1, e2, e3⟩ := run_sliceBounds (P := P) (w := w) (isS := true) (cap := cap) hT h1 h2 hb lb g1
    have hrun : (Instr.sliceAt t (a.eval x) (lo.map a.eval) (hi.map a.eval) (none.map a.eval)).run P w = .ok (.slice (if cap = l then A else A.map (·.add (l * inf.size))) (h - l) (cap - l)) w := by
      rw [hx]
      simp [Instr.sliceAt, Instr.slice, run_underlying ht, e1, run_sizeOf' hi0]
    refine goes_same hW (run_of_value (s := Instr.sliceAt t (a.eval x) (lo.map a.eval) (hi.map a.eval) (none.map a.eval)) (by unfold execOp; simp only [ho]) hrun) (.rd _ _ _ ?_)
    have hlen : ((ys.take h).drop l).length = h - l := by simp; omega
    rw [← hlen]
    refine .rd fl _ _ _ inf.size (fun i c => f (l + i) c) (by rw [hlen]; omega) (fun r hr => hsize r (List.mem_of_mem_take (List.mem_of_mem_drop hr)))
      (fun hf r hr => g3 hf r (List.mem_of_mem_take (List.mem_of_mem_drop hr))) (fun i c v hv => ?_) (fun i c v hv => g5 _ _ _ (getD_drop hv).1)
    obtain ⟨hc, hlt⟩ := getD_drop hv
    obtain ⟨ad, hA, hcell⟩ := g4 _ _ _ hc
    have hss : sz = inf.size := by
      obtain ⟨r, hr, _⟩ := cellAt_mem hc
      rw [← g2 r hr, hsize r hr]
    rw [if_neg (by omega), hA]
    refine ⟨_, rfl, ?_⟩
    rw [addr_add_add, ← hss]
    have e : l * sz + (i * sz + c) = (l + i) * sz + c := by rw [Nat.add_mul]; omega
    rw [e]; exact hcell
theorem goes_cut_nil {t e : TypeId} {inf : TypeInfo} {x : Operand} {lo hi : Option Operand} {lo' hi' : Option X} {fl : Bool} {z h l : Nat} (ho : o.op = .slice t x lo hi none) (ht : P.underlying t = some (.slice e)) (hi0 : P.info? e = some inf)
    (hW : WRel w0 M R S g w) (hT : TRel S g (stab w0 R) a) (hv : VRel S g (stab w0 R) (.nil fl z) (a.eval x))
    (h1 : cO P lo = some lo') (h2 : cO P hi = some hi') (hb : bound 0 0 (evalO S hi') = some h) (lb : bound 0 h (evalO S lo') = some l) : Goes P w0 M R S g a w o S (.nil fl z) := by
  obtain ⟨e1, e2, e3⟩ := run_sliceBounds (P := P) (w := w) (isS := true) (cap := 0) hT h1 h2 hb lb (Nat.le_refl _)
  have hh : h = 0 := by omega
  have hl : l = 0 := by omega
  subst hh; subst hl
  refine goes_same (cv := .slice none 0 0) hW (run_of_value (s := Instr.sliceAt t (a.eval x) (lo.map a.eval) (hi.map a.eval) (none.map a.eval)) (by unfold execOp; simp only [ho]) ?_) (.nil _ _)
  rw [hv.nil_inv]
  simp [Instr.sliceAt, Instr.slice, run_underlying ht, e1, run_sizeOf' hi0]
theorem goes_scut {t : TypeId} {x : Operand} {lo hi : Option Operand} {lo' hi' : Option X} {s : ByteArray} {h l : Nat} (ho : o.op = .slice t x lo hi none) (ht : P.underlying t = some .string)
    (hW : WRel w0 M R S g w) (hT : TRel S g (stab w0 R) a) (hv : VRel S g (stab w0 R) (.str s) (a.eval x))
    (h1 : cO P lo = some lo') (h2 : cO P hi = some hi') (hb : bound s.size s.size (evalO S hi') = some h) (lb : bound 0 h (evalO S lo') = some l) : Goes P w0 M R S g a w o S (.str (s.extract l h)) := by
  obtain ⟨e1, e2, e3⟩ := run_sliceBounds (P := P) (w := w) (isS := false) (cap := s.size) hT h1 h2 hb lb (Nat.le_refl _)
  refine goes_same (cv := .string (s.extract l h)) hW (run_of_value (s := Instr.sliceAt t (a.eval x) (lo.map a.eval) (hi.map a.eval) (none.map a.eval)) (by unfold execOp; simp only [ho]) ?_) (.str _)
  rw [hv.str_inv]
  simp [Instr.sliceAt, Instr.slice, run_underlying ht, e1]

theorem goes_faddr_own {s0 : TypeId} {x : Operand} {f : Nat} {fs : Array Field} {fd : Field} {inf : TypeInfo} {lv s ver : Nat} {p : Path} {i c : Nat} {b : Blk} {ys : List (List AV)} (ho : o.op = .fieldAddr s0 x f) (ht : P.underlying s0 = some (.struct fs)) (hf : fs[f]? = some fd) (hi : P.info? fd.type = some inf) (hpos : 0 < inf.size)
    (hW : WRel w0 M R S g w) (hv : VRel S g (stab w0 R) (.ptr lv s ver p i c) (a.eval x)) (hat : S.at lv s ver p = some (b, ys)) : Goes P w0 M R S g a w o S (.ptr lv s ver p i (c + fd.offset)) := by
  obtain ⟨hk, hs⟩ := hv.ptr_inv
  obtain ⟨h0, B, hB, he⟩ := hs b ys hat
  have hrun : (Instr.fieldAt s0 (a.eval x) f).run P w = .ok (.pointer (some ⟨B, i * csz b.sz p ys + c + fd.offset, none⟩)) w := by
    rw [he]
    simp [Instr.fieldAt, run_underlying ht, hf, Instr.sureAddr, fieldPlace, run_sizeOf' hi, show inf.size ≠ 0 by omega, Addr.add_lit]
  refine goes_same hW (run_of_value (s := Instr.fieldAt s0 (a.eval x) f) (by unfold execOp; simp only [ho]) hrun) ?_
  refine .ptr _ _ _ _ _ _ _ hk ⟨_, rfl⟩ fun b' ys' hat' => ?_
  rw [hat] at hat'; cases hat'
  exact ⟨h0, B, hB, by rw [Nat.add_assoc]⟩
theorem goes_faddr_rd {s0 : TypeId} {x : Operand} {f : Nat} {fs : Array Field} {fd : Field} {inf : TypeInfo} {cs : List AV} (ho : o.op = .fieldAddr s0 x f) (ht : P.underlying s0 = some (.struct fs)) (hf : fs[f]? = some fd) (hi : P.info? fd.type = some inf) (hpos : 0 < inf.size)
    (hW : WRel w0 M R S g w) (hv : VRel S g (stab w0 R) (.rptr cs) (a.eval x)) : Goes P w0 M R S g a w o S (.rptr (cs.drop fd.offset)) := by
  generalize hx : a.eval x = cv at hv
  cases hv.rptr_inv with
  | rptr ad cs f0 hc hr =>
    have hrun : (Instr.fieldAt s0 (a.eval x) f).run P w = .ok (.pointer (some (ad.add fd.offset))) w := by
      rw [hx]
      simp [Instr.fieldAt, run_underlying ht, hf, Instr.sureAddr, fieldPlace, run_sizeOf' hi, show inf.size ≠ 0 by omega]
    refine goes_same hW (run_of_value (s := Instr.fieldAt s0 (a.eval x) f) (by unfold execOp; simp only [ho]) hrun) (.rptr _ _ ?_)
    refine .rptr _ _ (fun c => f0 (fd.offset + c)) (fun c v hv => ?_) (fun c v hv => hr _ v (by simpa using hv))
    rw [addr_add_add]
    exact hc _ v (by simpa using hv)

theorem goes_iaddr_own {t e : TypeId} {inf : TypeInfo} {x y : Operand} {lv s ver : Nat} {p : Path} {off len : Nat} {k : IntKind} {n : Int} {b : Blk} {ys : List (List AV)} {row : List AV} (ho : o.op = .indexAddr t x y) (ht : P.underlying t = some (.slice e)) (hi : P.info? e = some inf)
    (hW : WRel w0 M R S g w) (hv : VRel S g (stab w0 R) (.sl lv s ver p off len) (a.eval x)) (hy : VRel S g (stab w0 R) (.int k n) (a.eval y)) (h0 : 0 ≤ n ∧ n < len) (hat : S.at lv s ver p = some (b, ys)) (hrow : ys[off + n.toNat]? = some row) (hsz : row.length = inf.size) :
    Goes P w0 M R S g a w o S (.ptr lv s ver p (off + n.toNat) 0) := by
  obtain ⟨hk, hs⟩ := hv.sl_inv
  obtain ⟨A, cap, he, c1, c2, c3⟩ := hs b ys hat
  obtain ⟨hb, hver, hn⟩ := at_blk hat
  have hne : ys ≠ [] := fun h => by rw [h] at hrow; simp at hrow
  obtain ⟨d1, d2, d3⟩ := hW.cont lv s b p ys hb hn
  have hcsz : csz b.sz p ys = inf.size := by rw [← hsz]; exact (csz_row d1 hrow).symm
  cases hB : g.θ lv s p with
  | none => rw [hB] at d3; exact absurd d3 hne
  | some B =>
    replace c3 := c3 (.inr (by omega))
    rw [hB] at c3
    have hA := c3.1.resolve_left (by omega)
    have hrun : (Instr.indexAt t (a.eval x) (a.eval y)).run P w = .ok (.pointer (some ⟨B, (off + n.toNat) * csz b.sz p ys + 0, none⟩)) w := by
      rw [he, hy.int_inv, hA]
      simp [Instr.indexAt, asIntOf, run_underlying ht, h0, run_sizeOf' hi, Addr.add_lit, hcsz, Nat.add_mul]
    refine goes_same hW (run_of_value (s := Instr.indexAt t (a.eval x) (a.eval y)) (by unfold execOp; simp only [ho]) hrun) ?_
    refine .ptr _ _ _ _ _ _ _ hk ⟨_, rfl⟩ fun b' ys' hat' => ?_
    rw [hat] at hat'; cases hat'
    exact ⟨fun _ => (List.getElem?_eq_some_iff.1 hrow).1, B, hB, rfl⟩
theorem goes_iaddr_rd {t e : TypeId} {inf : TypeInfo} {x y : Operand} {fl : Bool} {k : IntKind} {n : Int} {ys : List (List AV)} {row : List AV} (ho : o.op = .indexAddr t x y) (ht : P.underlying t = some (.slice e)) (hi : P.info? e = some inf) (hpos : 0 < inf.size)
    (hW : WRel w0 M R S g w) (hv : VRel S g (stab w0 R) (.rd fl ys) (a.eval x)) (hy : VRel S g (stab w0 R) (.int k n) (a.eval y)) (h0 : 0 ≤ n) (hrow : ys[n.toNat]? = some row) (hsz : row.length = inf.size) :
    Goes P w0 M R S g a w o S (.rptr row) := by
  generalize hx : a.eval x = cv at hv
  have hlt : n.toNat < ys.length := (List.getElem?_eq_some_iff.1 hrow).1
  cases hv.rd_inv with
  | rd _ _ A cap sz f g1 g2 g3 g4 g5 =>
    have hss : sz = inf.size := by rw [← g2 row (List.mem_of_getElem? hrow), hsz]
    obtain ⟨ad, hA, _⟩ := g4 n.toNat 0 (row[0]'(by omega)) (by simp [cellAt, hrow, show 0 < row.length by omega])
    have hrun : (Instr.indexAt t (a.eval x) (a.eval y)).run P w = .ok (.pointer (some (ad.add (n.toNat * inf.size)))) w := by
      rw [hx, hy.int_inv, hA]
      simp [Instr.indexAt, asIntOf, run_underlying ht, show (0 ≤ n ∧ n < (ys.length : Int)) by omega, run_sizeOf' hi]
    refine goes_same hW (run_of_value (s := Instr.indexAt t (a.eval x) (a.eval y)) (by unfold execOp; simp only [ho]) hrun) (.rptr _ _ ?_)
    refine .rptr _ _ (fun c => f n.toNat c) (fun c v hv => ?_) (fun c v hv => g5 n.toNat c v (by rw [cellAt_row hrow]; exact hv))
    obtain ⟨ad', hA', hcell⟩ := g4 n.toNat c v (by rw [cellAt_row hrow]; exact hv)
    rw [hA] at hA'; cases hA'
    rw [addr_add_add, ← hss]; exact hcell

theorem goes_idx {t : TypeId} {x y : Operand} {s : ByteArray} {k : IntKind} {n : Int} {c : UInt8} (ho : o.op = .index t x y) (ht : P.underlying t = some .string) (hW : WRel w0 M R S g w) (hv : VRel S g (stab w0 R) (.str s) (a.eval x)) (hy : VRel S g (stab w0 R) (.int k n) (a.eval y))
    (h0 : 0 ≤ n) (hc : s[n.toNat]? = some c) : Goes P w0 M R S g a w o S (.int .u8 c.toNat) :=
  goes_same (cv := .int .u8 c.toNat) hW (run_of_value (s := Instr.index t (a.eval x) (a.eval y)) (by unfold execOp; simp only [ho]) (by rw [hv.str_inv, hy.int_inv]; simp [Instr.index, asIntOf, run_underlying ht, h0, hc])) (.int _ _)
theorem goes_ext {x : Operand} {i : Nat} {vs : List AV} {v : AV} (ho : o.op = .extract x i) (hW : WRel w0 M R S g w) (hv : VRel S g (stab w0 R) (.tup vs) (a.eval x)) (hi : vs[i]? = some v) : Goes P w0 M R S g a w o S v := by
  obtain ⟨arr, he, hl, hr⟩ := hv.tup_inv
  have hlt : i < arr.size := by rw [← hl]; exact (List.getElem?_eq_some_iff.1 hi).1
  exact goes_same (cv := arr.getD i undef) hW (run_of_value (s := Instr.extract (a.eval x) i) (by unfold execOp; simp only [ho]) (by rw [he]; simp [Instr.extract, hlt])) (hr i v hi)
theorem goes_len {x : Operand} {t : TypeId} {d : TypeDesc} {v : AV} {n : Nat} (ho : o.op = .call { callee := .builtin .len, args := #[x], argTypes := #[t] }) (ht : P.underlying t = some d) (hW : WRel w0 M R S g w) (hv : VRel S g (stab w0 R) v (a.eval x))
    (hd : (d = .string ∧ ∃ s, a.eval x = .string s ∧ n = s.size) ∨ (∃ e, d = .slice e) ∧ ∃ A c, a.eval x = .slice A n c) : Goes P w0 M R S g a w o S (.int .i64 n) := by
  refine goes_same (cv := .int .i64 n) hW ?_ (.int _ _)
  unfold execOp
  rcases hd with ⟨rfl, s, h1, rfl⟩ | ⟨⟨e, rfl⟩, A, c, h1⟩
  · simp [ho, resolve, invoke, builtin, Builtin.len_, run_underlying ht, h1, goInt]
  · simp [ho, resolve, invoke, builtin, Builtin.len_, run_underlying ht, h1, goInt]
theorem goes_max {x y : Operand} {t u : TypeId} {k : IntKind} {m n : Int} (ho : o.op = .call { callee := .builtin .max, args := #[x, y], argTypes := #[t, u] }) (hW : WRel w0 M R S g w) (h1 : VRel S g (stab w0 R) (.int k m) (a.eval x)) (h2 : VRel S g (stab w0 R) (.int k n) (a.eval y)) : Goes P w0 M R S g a w o S (.int k (if n > m then n else m)) := by
  refine goes_same (cv := .int k (if n > m then n else m)) hW ?_ (.int _ _)
  unfold execOp
  simp [ho, resolve, invoke, builtin, Builtin.max_, h1.int_inv, h2.int_inv, Builtin.max2]
theorem goes_min {x y : Operand} {t u : TypeId} {k : IntKind} {m n : Int} (ho : o.op = .call { callee := .builtin .min, args := #[x, y], argTypes := #[t, u] }) (hW : WRel w0 M R S g w) (h1 : VRel S g (stab w0 R) (.int k m) (a.eval x)) (h2 : VRel S g (stab w0 R) (.int k n) (a.eval y)) : Goes P w0 M R S g a w o S (.int k (if n < m then n else m)) := by
  refine goes_same (cv := .int k (if n < m then n else m)) hW ?_ (.int _ _)
  unfold execOp
  simp [ho, resolve, invoke, builtin, Builtin.min_, h1.int_inv, h2.int_inv, Builtin.min2]
end
end Go.Ae
namespace Go.Ae
open Go.RowKit
set_option linter.unusedVariables false
set_option linter.unusedSimpArgs false
section
variable {P : Program} {w w0 : World} {M : Nat → Nat → Path → Option Nat} {R : Nat → Prop} {S : St} {g : G} {a : Act} {o : Oper}

theorem navE_flatOwn {elems : List (List AV)} (h : ∀ i c fl zs, cellAt elems i c = some (.own fl zs) → zs = []) : ∀ {p : Path} {ys : List (List AV)}, navE elems p = some ys → p = [] ∧ ys = elems ∨ p ≠ [] ∧ ys = []
  | [], ys, hp => by simp [navE] at hp; exact .inl ⟨rfl, hp.symm⟩
  | (i, c) :: q, ys, hp => by
    right
    refine ⟨by simp, ?_⟩
    cases hu : cellAt elems i c with
    | none => simp [navE, hu] at hp
    | some v =>
      cases v with
      | own fl zs =>
        have hz := h i c fl zs hu
        subst hz
        simp only [navE, hu] at hp
        cases q with
        | nil => simpa [navE] using hp.symm
        | cons x r => obtain ⟨i', c'⟩ := x; simp [navE, cellAt] at hp
      | _ => simp [navE, hu] at hp

/-- A new row. -/
theorem newArr {elems : List (List AV)} {s sz : Nat} {fl : Bool} {ty : TypeId} {arr : Array Value} {fz : Nat × Nat} {w' : World} {S' : St} (hW : WRel w0 M R S g w)
    (hn : S.new s { ver := 0, sz, box := false, fl, elems } = some S') (hos : w'.os = w.os) (htape : w'.tape = w.tape) (hout : w'.output = w.output) (hold : ∀ B, B < w.heap.size → w'.heap[B]? = w.heap[B]?) (hnew : w'.heap[w.heap.size]? = some (.cells arr ty fz)) (hsz' : w'.heap.size = w.heap.size + 1) (hfz : FreeS sz fz arr.size)
    (hl : ∀ r ∈ elems, r.length = sz) (hpos : 0 < sz) (hsz : elems.length * sz ≤ arr.size)
    (hv : ∀ i c v, cellAt elems i c = some v → ∃ cv, arr[i * sz + c]? = some cv ∧ ((v.scal = true ∧ VRel S g (stab w0 R) v cv) ∨ ∃ f, v = .own f [] ∧ fl = false ∧ cv = .slice none 0 0)) :
    ∃ g', WRel w0 M R S' g' w' ∧ Ext S g S' g' ∧ ∀ len cap, len ≤ elems.length → len ≤ cap → cap * sz ≤ arr.size → VRel S' g' (stab w0 R) (.sl 0 s 0 [] 0 len) (.slice (some ⟨w.heap.size, 0, none⟩) len cap) := by
  let t : Path → Option Nat := fun p => if p = [] then some w.heap.size else none
  let κ : Nat → Nat := fun B => if B = w.heap.size then arr.size else g.κ B
  have hκ : ∀ lv s p B, g.θ lv s p = some B → κ B = g.κ B := fun lv s p B hB => by
    have := hW.rng lv s p B hB
    simp only [κ]; rw [if_neg (by omega)]
  have hW' : WRel w0 M R S g w' := hW.world hos htape hout (by omega) hold
  have he := Ext.new (g := g) hn t hκ
  have hown : ∀ i c f zs, cellAt elems i c = some (.own f zs) → zs = [] := fun i c f zs h => by
    obtain ⟨cv, _, h1 | ⟨f', h1, _⟩⟩ := hv i c _ h
    · simp [AV.scal] at h1
    · cases h1; rfl
  refine ⟨g.add s t κ, ?_, he, fun len cap h1 h2 h3 => ?_⟩
  · refine hW'.extend hn t κ hκ (fun p B hB => ?_) (fun p q B h1 h2 => ?_) fun p ys hp => ?_
    · simp only [t] at hB
      split at hB
      · cases hB
        exact ⟨hW.size, by omega, fun lv s p h => by have := hW.rng lv s p _ h; omega⟩
      · cases hB
    · simp only [t] at h1 h2
      split at h1 <;> split at h2 <;> simp_all
    · rcases navE_flatOwn hown hp with ⟨rfl, rfl⟩ | ⟨hp0, rfl⟩
      · refine ⟨hl, fun _ => hpos, ?_⟩
        rw [add_θ, if_pos ⟨rfl, rfl⟩]
        simp only [t, if_true]
        refine ⟨arr, ty, fz, hnew, hfz, by simp [G.add, κ], hsz, fun i c v hv' => ?_⟩
        obtain ⟨cv, c1, c2⟩ := hv i c v hv'
        refine ⟨cv, c1, ?_⟩
        rcases c2 with ⟨c2, c3⟩ | ⟨f, rfl, c2, rfl⟩
        · have c3' := c3.mono he
          rw [← scal_mapR (f := upR 0) c2] at c3'
          cases v <;> first | exact ⟨c3', fun _ => c2⟩ | simp [AV.scal] at c2
        · refine ⟨rfl, c2, fun _ r hr => by simp at hr, none, 0, rfl, Nat.le_refl _, ?_⟩
          rw [add_θ, if_pos ⟨rfl, rfl⟩]
          simp [t]
      · refine ⟨fun r hr => by simp at hr, fun h => absurd rfl h, ?_⟩
        rw [add_θ, if_pos ⟨rfl, rfl⟩]
        simp [t, hp0]
  · have hb := new_blk hn 0 s
    rw [if_pos ⟨rfl, rfl⟩] at hb
    refine .sl _ _ _ _ _ _ _ ⟨_, blk_get hb, fun b' h => by cases h; exact Nat.le_refl _⟩ ⟨_, _, _, rfl⟩ fun b' ys hat => ?_
    obtain ⟨a1, a2, a3⟩ := at_blk hat
    rw [hb] at a1; cases a1
    simp [navE] at a3; subst a3
    refine ⟨_, cap, rfl, h2, by simpa using h1, fun _ => ?_⟩
    rw [add_θ, if_pos ⟨rfl, rfl⟩]
    simp only [t, if_true]
    exact ⟨.inr (by simp), fun _ => by simpa [G.add, κ] using h3⟩

theorem free_zero {k : Nat} (n : Nat) : FreeS k (0, 0) n := ⟨fun o ho => by simp, .inl rfl⟩

theorem rowsOf_length (s : ByteArray) : (rowsOf s).length = s.size := by simp [rowsOf]
theorem cellAt_rowsOf {s : ByteArray} {i c : Nat} {v : AV} (h : cellAt (rowsOf s) i c = some v) : c = 0 ∧ ∃ b, s.data.toList[i]? = some b ∧ v = .int .u8 b.toNat := by
  unfold cellAt rowsOf at h
  rw [List.getElem?_map] at h
  cases hb : s.data.toList[i]? with
  | none => simp [hb] at h
  | some b =>
    simp only [hb, Option.map_some] at h
    cases c with
    | zero => simp at h; exact ⟨rfl, b, rfl, h.symm⟩
    | succ c => simp at h
theorem goes_s2b {src dst e : TypeId} {x : Operand} {s : ByteArray} {base : Nat} {S' : St} (ho : o.op = .convert src dst x) (h1 : P.underlying src = some .string) (h2 : P.underlying dst = some (.slice e)) (h3 : P.underlying e = some (.int .u8)) (hW : WRel w0 M R S g w)
    (hv : VRel S g (stab w0 R) (.str s) (a.eval x)) (hn : S.new base { ver := 0, sz := 1, box := false, fl := true, elems := rowsOf s } = some S') : Goes P w0 M R S g a w o S' (.sl 0 base 0 [] 0 s.size) := by
  have hcap : s.size ≤ grownCap w s.size 0 e := Nat.le_add_right _ _
  have harr : (Lib.bytesCells w e s).size = grownCap w s.size 0 e := by
    have : s.data.size = s.size := rfl
    simp [Lib.bytesCells, this]; omega
  obtain ⟨g', b1, b2, b3⟩ := newArr (w' := Lib.bytesWorld w e s) (arr := Lib.bytesCells w e s) (ty := e) (fz := ((Lib.bytesCells w e s).size, (Lib.bytesCells w e s).size + 1)) hW hn rfl rfl rfl (fun B hB => Lib.bytesWorld_at_old w e s B hB) (Lib.bytesWorld_at_new w e s) (Lib.bytesWorld_size w e s)
    ⟨fun o ho => by simp; omega, .inr (Nat.le_refl 1)⟩ (fun r hr => by simp [rowsOf] at hr; obtain ⟨b, _, rfl⟩ := hr; rfl) Nat.one_pos
    (by rw [rowsOf_length]; omega) (fun i c v h => by
      obtain ⟨rfl, b, hb, rfl⟩ := cellAt_rowsOf h
      refine ⟨.int .u8 b.toNat, ?_, .inl ⟨rfl, .int _ _⟩⟩
      have hi : i < s.data.size := by simpa using (List.getElem?_eq_some_iff.1 hb).1
      have hb' : s.data[i] = b := by
        rw [Array.getElem?_toList, Array.getElem?_eq_getElem hi] at hb
        exact Option.some.inj hb
      simp [Lib.bytesCells, Array.getElem?_append, hi, show i < s.size from hi, Array.getElem?_eq_getElem hi, hb'])
  exact ⟨_, _, g', run_of_value (s := convert src dst (a.eval x)) (by unfold execOp; simp only [ho]) (by rw [hv.str_inv]; exact Lib.run_convert_string_bytes w src dst e s h1 h2 h3), b1, b2, b3 s.size _ (by rw [rowsOf_length]; exact Nat.le_refl _) hcap (by omega)⟩

/-! ### b2s -/
theorem bytesOf_some : ∀ {rows : List (List AV)} {l : List UInt8}, bytesOf rows = some l → rows.length = l.length ∧ ∀ i c v, cellAt rows i c = some v → c = 0 ∧ ∃ n, v = .int .u8 n ∧ l[i]? = some (UInt8.ofNat n.toNat)
  | [], l, h => by simp [bytesOf] at h; subst h; exact ⟨rfl, fun i c v h => by simp [cellAt] at h⟩
  | [.int .u8 n] :: r, l, h => by
    simp only [bytesOf] at h
    split at h
    · rename_i l' hl
      cases h
      obtain ⟨a1, a2⟩ := bytesOf_some hl
      refine ⟨by simp [a1], fun i c v hv => ?_⟩
      cases i with
      | zero =>
        simp [cellAt] at hv
        cases c with
        | zero => simp at hv; exact ⟨rfl, n, hv.symm, by simp⟩
        | succ c => simp at hv
      | succ i => simpa using a2 i c v (by simpa [cellAt] using hv)
    · cases h
  | [] :: _, l, h => by simp [bytesOf] at h
  | (.int .u8 _ :: _ :: _) :: _, l, h => by simp [bytesOf] at h
  | (.bool _ :: _) :: _, l, h => by simp [bytesOf] at h
  | (.str _ :: _) :: _, l, h => by simp [bytesOf] at h
  | (.nil _ _ :: _) :: _, l, h => by simp [bytesOf] at h
  | (.rd _ _ :: _) :: _, l, h => by simp [bytesOf] at h
  | (.own _ _ :: _) :: _, l, h => by simp [bytesOf] at h
  | (.sl .. :: _) :: _, l, h => by simp [bytesOf] at h
  | (.ptr .. :: _) :: _, l, h => by simp [bytesOf] at h
  | (.rptr _ :: _) :: _, l, h => by simp [bytesOf] at h
  | (.agg _ :: _) :: _, l, h => by simp [bytesOf] at h
  | (.fn .. :: _) :: _, l, h => by simp [bytesOf] at h
  | (.tup _ :: _) :: _, l, h => by simp [bytesOf] at h
  | (.skp :: _) :: _, l, h => by simp [bytesOf] at h
  | (.undef :: _) :: _, l, h => by simp [bytesOf] at h
  | (.int .i8 _ :: _) :: _, l, h => by simp [bytesOf] at h
  | (.int .i16 _ :: _) :: _, l, h => by simp [bytesOf] at h
  | (.int .i32 _ :: _) :: _, l, h => by simp [bytesOf] at h
  | (.int .i64 _ :: _) :: _, l, h => by simp [bytesOf] at h
  | (.int .u16 _ :: _) :: _, l, h => by simp [bytesOf] at h
  | (.int .u32 _ :: _) :: _, l, h => by simp [bytesOf] at h
  | (.int .u64 _ :: _) :: _, l, h => by simp [bytesOf] at h
theorem bytesOf_rows : ∀ {rows : List (List AV)} {l : List UInt8}, bytesOf rows = some l → ∀ i, i < rows.length → ∃ n, rows[i]? = some [.int .u8 n] ∧ l[i]? = some (UInt8.ofNat n.toNat) := by
  intro rows l h i hi
  induction rows generalizing l i with
  | nil => simp at hi
  | cons row r ih =>
    have h' := h
    unfold bytesOf at h'
    split at h'
    · simp_all
    · rename_i n r' he
      cases he
      split at h'
      · rename_i l' hl
        cases h'
        cases i with
        | zero => exact ⟨n, by simp, by simp⟩
        | succ i => simpa using ih hl i (by simpa using hi)
      · cases h'
    · cases h'

theorem foldl_bytes (ns : List Int) : ∀ s : ByteArray, ns.foldl (fun r n => r.push (UInt8.ofNat n.toNat)) s = ⟨s.data ++ (ns.map fun n => UInt8.ofNat n.toNat).toArray⟩ := by
  induction ns with
  | nil => intro s; simp
  | cons n ns ih => intro s; rw [List.foldl_cons, ih]; simp [ByteArray.push]
theorem run_b2s {A : Option Addr} {cap : Nat} {l : List UInt8} {ns : Nat → Int} (hl : ∀ i, i < l.length → l[i]? = some (UInt8.ofNat (ns i).toNat)) (hc : ∀ i, i < l.length → ∃ ad, A = some ad ∧ w.cell? (ad.add i) = some (.int .u8 (ns i))) :
    (Conv.bytesToString (.slice A l.length cap)).run P w = .ok (.string ⟨l.toArray⟩) w := by
  cases A with
  | none =>
    cases l with
    | nil => rfl
    | cons x r => obtain ⟨ad, h, _⟩ := hc 0 (by simp); cases h
  | some ad =>
    have hcs : ∀ j, j < l.length → w.cell? (ad.add j) = some (.int .u8 (ns j)) := fun j hj => by obtain ⟨ad', h1, h2⟩ := hc j hj; cases h1; exact h2
    have hload := run_loadCells (P := P) w ad l.length (fun j => .int .u8 (ns j)) hcs
    have e0 : ((List.range l.length).map fun j => Value.int .u8 (ns j)).toArray = (((List.range l.length).map ns).map (Value.int .u8)).toArray := by rw [List.map_map]; rfl
    rw [e0] at hload
    have := run_bytesToString (P := P) w ad l.length cap _ hload
    rw [this, foldl_bytes]
    congr 2
    have e : ((List.range l.length).map ns).map (fun n => UInt8.ofNat n.toNat) = l := by
      apply List.ext_getElem?
      intro i
      by_cases hi : i < l.length
      · rw [List.getElem?_map, List.getElem?_map, List.getElem?_range hi, hl i hi]; rfl
      · rw [List.getElem?_eq_none (by simpa using hi), List.getElem?_eq_none (by omega)]
    rw [e]
    simp

theorem goes_b2s {src dst e : TypeId} {x : Operand} {A : Option Addr} {cap : Nat} {l : List UInt8} {ns : Nat → Int} (ho : o.op = .convert src dst x) (h1 : P.underlying src = some (.slice e)) (h2 : P.underlying dst = some .string) (h3 : P.underlying e = some (.int .u8)) (hW : WRel w0 M R S g w)
    (hx : a.eval x = .slice A l.length cap) (hl : ∀ i, i < l.length → l[i]? = some (UInt8.ofNat (ns i).toNat)) (hc : ∀ i, i < l.length → ∃ ad, A = some ad ∧ w.cell? (ad.add i) = some (.int .u8 (ns i))) : Goes P w0 M R S g a w o S (.str ⟨l.toArray⟩) := by
  refine goes_same (cv := .string ⟨l.toArray⟩) hW (run_of_value (s := convert src dst (a.eval x)) (by unfold execOp; simp only [ho]) ?_) (.str _)
  have := run_b2s (P := P) (w := w) (cap := cap) hl hc
  rw [hx]
  cases A <;> simp [convert, run_underlying h1, run_underlying h2, run_underlying h3, this]
theorem goes_b2s_rd {src dst e : TypeId} {x : Operand} {fl : Bool} {ys : List (List AV)} {l : List UInt8} (ho : o.op = .convert src dst x) (h1 : P.underlying src = some (.slice e)) (h2 : P.underlying dst = some .string) (h3 : P.underlying e = some (.int .u8)) (hR : RdW w0 M R) (hW : WRel w0 M R S g w)
    (hv : VRel S g (stab w0 R) (.rd fl ys) (a.eval x)) (hb : bytesOf ys = some l) : Goes P w0 M R S g a w o S (.str ⟨l.toArray⟩) := by
  have hlen := (bytesOf_some hb).1
  have hrows := bytesOf_rows hb
  generalize hx : a.eval x = cv at hv
  cases hv.rd_inv with
  | rd _ _ A cap sz f g1 g2 g3 g4 g5 =>
    let ns : Nat → Int := fun i => match f i 0 with | .int _ n => n | _ => 0
    have hget : ∀ i, i < l.length → ∃ n, ys[i]? = some [.int .u8 n] ∧ l[i]? = some (UInt8.ofNat n.toNat) ∧ f i 0 = .int .u8 n ∧ sz = 1 := fun i hi => by
      obtain ⟨n, c1, c2⟩ := hrows i (by omega)
      have := g5 i 0 (.int .u8 n) (by rw [cellAt_row c1]; rfl)
      refine ⟨n, c1, c2, ?_, ?_⟩
      · generalize f i 0 = u at this; cases this; rfl
      · rw [← g2 _ (List.mem_of_getElem? c1)]; rfl
    refine goes_b2s (A := A) (cap := cap) (ns := ns) ho h1 h2 h3 hW (by rw [hx, hlen]) (fun i hi => ?_) (fun i hi => ?_)
    · obtain ⟨n, c1, c2, c3, _⟩ := hget i hi
      simp only [ns, c3]; exact c2
    · obtain ⟨n, c1, c2, c3, c4⟩ := hget i hi
      obtain ⟨ad, d1, d2⟩ := g4 i 0 (.int .u8 n) (by rw [cellAt_row c1]; rfl)
      refine ⟨ad, d1, ?_⟩
      simp only [ns, c3]
      rw [c4] at d2
      have := stab_cell hR hW d2
      simpa [c3] using this
theorem goes_b2s_own {src dst e : TypeId} {x : Operand} {lv s ver : Nat} {p : Path} {off len : Nat} {b : Blk} {ys : List (List AV)} {l : List UInt8} (ho : o.op = .convert src dst x) (h1 : P.underlying src = some (.slice e)) (h2 : P.underlying dst = some .string) (h3 : P.underlying e = some (.int .u8)) (hW : WRel w0 M R S g w)
    (hv : VRel S g (stab w0 R) (.sl lv s ver p off len) (a.eval x)) (hat : S.at lv s ver p = some (b, ys)) (hlen : off + len ≤ ys.length) (hbox : b.box = false) (hb : bytesOf ((ys.drop off).take len) = some l) : Goes P w0 M R S g a w o S (.str ⟨l.toArray⟩) := by
  obtain ⟨hk, hs⟩ := hv.sl_inv
  obtain ⟨A, cap, he, c1, c2, c3⟩ := hs b ys hat
  obtain ⟨hb0, hver, hn⟩ := at_blk hat
  obtain ⟨d1, d2, d3⟩ := hW.cont lv s b p ys hb0 hn
  have hll := (bytesOf_some hb).1
  have hrows := bytesOf_rows hb
  have hl' : l.length = len := by rw [← hll]; simp; omega
  let ns : Nat → Int := fun i => match ys[off + i]? with | some [.int _ n] => n | _ => 0
  have hget : ∀ i, i < l.length → ∃ n, ys[off + i]? = some [.int .u8 n] ∧ l[i]? = some (UInt8.ofNat n.toNat) := fun i hi => by
    obtain ⟨n, e1, e2⟩ := hrows i (by omega)
    rw [List.getElem?_take, List.getElem?_drop] at e1
    rw [if_pos (by omega)] at e1
    exact ⟨n, e1, e2⟩
  refine goes_b2s (A := A) (cap := cap) (ns := ns) ho h1 h2 h3 hW (by rw [he, hl']) (fun i hi => ?_) (fun i hi => ?_)
  · obtain ⟨n, e1, e2⟩ := hget i hi
    simp only [ns, e1]; exact e2
  · obtain ⟨n, e1, e2⟩ := hget i hi
    have hcs : csz b.sz p ys = 1 := by rw [← csz_row d1 e1]; rfl
    cases hB : g.θ lv s p with
    | none => rw [hB] at d3; rw [d3] at e1; simp at e1
    | some B =>
      replace c3 := c3 (.inr (by omega))
      rw [hB] at d3 c3
      obtain ⟨arr, ty, fz, f1, f2, f3, f4, f5⟩ := d3
      have hA := c3.1.resolve_left (by omega)
      refine ⟨_, hA, ?_⟩
      obtain ⟨cv, k1, k2⟩ := f5 (off + i) 0 (.int .u8 n) (by rw [cellAt_row e1]; rfl)
      rw [Addr.add_lit, blk_cell' f1]
      rw [hcs] at k1 ⊢
      simp only [Nat.mul_one, Nat.add_zero] at k1 ⊢
      rw [k1, VRel.int_inv (k := .u8) (n := n) k2.1]
      simp only [ns, e1]
theorem goes_b2s_nil {src dst e : TypeId} {x : Operand} {fl : Bool} {z : Nat} (ho : o.op = .convert src dst x) (h1 : P.underlying src = some (.slice e)) (h2 : P.underlying dst = some .string) (h3 : P.underlying e = some (.int .u8)) (hW : WRel w0 M R S g w)
    (hv : VRel S g (stab w0 R) (.nil fl z) (a.eval x)) : Goes P w0 M R S g a w o S (.str ByteArray.empty) := by
  refine goes_same (cv := .string ByteArray.empty) hW (run_of_value (s := convert src dst (a.eval x)) (by unfold execOp; simp only [ho]) ?_) (.str _)
  rw [hv.nil_inv]
  simp [convert, run_underlying h1, run_underlying h2, run_underlying h3, Conv.bytesToString]
end
end Go.Ae
namespace Go.Ae
open Go.RowKit
set_option linter.unusedVariables false
set_option linter.unusedSimpArgs false
section
variable {P : Program} {w w0 : World} {M : Nat → Nat → Path → Option Nat} {R : Nat → Prop} {S : St} {g : G} {a : Act} {o : Oper}

theorem run_part {t : TypeId} {inf : TypeInfo} {ag : Bool} {us : Array Value} {off : Nat} (hi : P.info? t = some inf) (hag : aggT P t = some ag) (h1 : ag = true ∨ inf.size = 1) (hl : off + inf.size ≤ us.size) :
    (part t us off).run P w = .ok (if ag then .agg (us.extract off (off + inf.size)) else us.getD off undef) w := by
  have hu : (isAgg t).run P w = .ok ag w := by
    unfold aggT at hag
    cases hd : P.underlying t with
    | none => simp [hd] at hag
    | some d =>
      simp only [isAgg, Sem.run_bind, run_underlying hd, Result.andThen_ok]
      cases d <;> simp [hd] at hag <;> subst hag <;> rfl
  unfold part
  simp only [Sem.run_bind, hu, Result.andThen_ok]
  cases ag with
  | true => simp [run_sizeOf' hi]
  | false =>
    have := h1.resolve_left (by simp)
    have hlt : off < us.size := by omega
    simp [hlt]
theorem goes_field {t : TypeId} {x : Operand} {f : Nat} {fs : Array Field} {fd : Field} {inf : TypeInfo} {ag : Bool} {cs : List AV} {v : AV} (ho : o.op = .field t x f) (ht : P.underlying t = some (.struct fs)) (hf : fs[f]? = some fd) (hi : P.info? fd.type = some inf) (hag : aggT P fd.type = some ag)
    (h1 : ag = true ∨ inf.size = 1) (hW : WRel w0 M R S g w) (hv : VRel S g (stab w0 R) (.agg cs) (a.eval x)) (hl : fd.offset + inf.size ≤ cs.length) (hof : AV.ofCells ag ((cs.drop fd.offset).take inf.size) = some v) : Goes P w0 M R S g a w o S v := by
  obtain ⟨arr, he, hs, hr⟩ := hv.agg_inv
  have hrun : (Instr.field t (a.eval x) f).run P w = .ok (if ag then .agg (arr.extract fd.offset (fd.offset + inf.size)) else arr.getD fd.offset undef) w := by
    rw [he]
    have hp := run_part (P := P) (w := w) (us := arr) (off := fd.offset) hi hag h1 (by omega)
    simp only [Instr.field, Sem.run_bind, run_underlying ht, Result.andThen_ok, hf, asAgg, Sem.run_pure]
    exact hp
  refine goes_same hW (run_of_value (s := Instr.field t (a.eval x) f) (by unfold execOp; simp only [ho]) hrun) ?_
  have hex : (arr.extract fd.offset (fd.offset + inf.size)).size = inf.size := by simp; omega
  have := ofCells_rel (S := S) (g := g) (cell := stab w0 R) (us := arr.extract fd.offset (fd.offset + inf.size)) hof (by rw [hex]; simp; omega) (fun i u hu => by
    have hi' : i < inf.size := by have := (List.getElem?_eq_some_iff.1 hu).1; simp at this; omega
    have hu' : cs[fd.offset + i]? = some u := by simpa [List.getElem?_take, hi'] using hu
    have hlt : fd.offset + i < arr.size := by omega
    have e : (arr.extract fd.offset (fd.offset + inf.size)).getD i undef = arr.getD (fd.offset + i) undef := by
      simp [hlt, hex, hi', show i < min (fd.offset + inf.size) arr.size - fd.offset by omega]
    rw [e]; exact hr _ u hu')
  cases ag with
  | true => exact this
  | false =>
    have h1' := h1.resolve_left (by simp)
    have e : (arr.extract fd.offset (fd.offset + inf.size)).getD 0 undef = arr.getD fd.offset undef := by
      have hlt : fd.offset < arr.size := by omega
      simp [hlt, h1', show 0 < min (fd.offset + 1) arr.size - fd.offset by omega]
    simp only [Bool.false_eq_true, if_false] at this ⊢
    rw [e] at this; exact this

/-! ### '==' of structs -/
theorem eqCells_append : ∀ {k1 k2 : List K3} {vs us : List AV} {r : Bool}, eqCells (k1 ++ k2) vs us = some r → ∃ r1 r2, eqCells k1 (vs.take k1.length) (us.take k1.length) = some r1 ∧ eqCells k2 (vs.drop k1.length) (us.drop k1.length) = some r2 ∧ r = (r1 && r2)
  | [], k2, vs, us, r, h => ⟨true, r, by simp [eqCells], by simpa using h, by simp⟩
  | k :: k1, k2, vs, us, r, h => by
    cases vs with
    | nil => simp [eqCells] at h
    | cons v vs => cases us with
      | nil => simp [eqCells] at h
      | cons u us =>
        simp only [List.cons_append, eqCells] at h
        split at h
        · rename_i x y hx hy
          cases h
          obtain ⟨r1, r2, e1, e2, rfl⟩ := eqCells_append hy
          exact ⟨x && r1, r2, by simp [eqCells, hx, e1], by simpa using e2, by simp [Bool.and_assoc]⟩
        · cases h
theorem eqCells_length : ∀ {ks : List K3} {vs us : List AV} {r : Bool}, eqCells ks vs us = some r → vs.length = ks.length ∧ us.length = ks.length
  | [], [], [], _, _ => ⟨rfl, rfl⟩
  | k :: ks, v :: vs, u :: us, r, h => by
    simp only [eqCells] at h
    split at h
    · rename_i x y hx hy
      obtain ⟨e1, e2⟩ := eqCells_length hy
      exact ⟨by simp [e1], by simp [e2]⟩
    · cases h
  | [], _ :: _, _, _, h => by simp [eqCells] at h
  | [], [], _ :: _, _, h => by simp [eqCells] at h
  | _ :: _, [], _, _, h => by simp [eqCells] at h
  | _ :: _, _ :: _, [], _, h => by simp [eqCells] at h

theorem eqKinds_scal {d : Nat} {t : TypeId} {ks : List K3} (h : eqKinds P d t = some ks) (ha : aggT P t = some false) : (∃ k, P.underlying t = some (.int k) ∧ ks = [.i]) ∨ (P.underlying t = some .bool ∧ ks = [.b]) ∨ (P.underlying t = some .string ∧ ks = [.s]) := by
  cases d with
  | zero => simp [eqKinds] at h
  | succ d =>
    simp only [eqKinds] at h
    unfold aggT at ha
    cases hd : P.underlying t with
    | none => simp [hd] at h
    | some dd => cases dd <;> simp [hd] at h ha <;> simp_all
theorem eqCell_run {cell : Addr → Option Value} {e : Nat} {t : TypeId} {k : K3} {u v : AV} {x y : Value} {r : Bool} (hu : VRel S g cell u x) (hv : VRel S g cell v y) (h : eqCell k u v = some r)
    (ht : (∃ q, P.underlying t = some (.int q) ∧ [k] = [K3.i]) ∨ (P.underlying t = some .bool ∧ [k] = [K3.b]) ∨ (P.underlying t = some .string ∧ [k] = [K3.s])) : (Op.equalIn (e + 1) t x y).run P w = .ok r w := by
  unfold eqCell at h
  rcases ht with ⟨q, h1, h2⟩ | ⟨h1, h2⟩ | ⟨h1, h2⟩ <;> cases h2
  · cases u <;> cases v <;> simp only [eqCell] at h <;> first | (cases h; done) | skip
    split at h
    · rename_i hk; subst hk; cases h; rw [hu.int_inv, hv.int_inv]; exact run_equalIn_int w e t _ q _ _ h1
    · cases h
  · cases u <;> cases v <;> simp only [eqCell] at h <;> first | (cases h; done) | skip
    cases h; rw [hu.bool_inv, hv.bool_inv]; exact run_equalIn_bool' w e t _ _ h1
  · cases u <;> cases v <;> simp only [eqCell] at h <;> first | (cases h; done) | skip
    cases h; rw [hu.str_inv, hv.str_inv]; exact run_equalIn_string w e t _ _ h1

theorem eq_run {cell : Addr → Option Value} : ∀ (d : Nat) (t : TypeId) (ks : List K3) (e : Nat), eqKinds P d t = some ks →
    (∀ u v x y r, aggT P t = some false → VRel S g cell u x → VRel S g cell v y → eqCells ks [u] [v] = some r → (Op.equalIn (d + e) t x y).run P w = .ok r w) ∧
    (∀ vs us xs ys r, aggT P t = some true → VRels S g cell vs xs → VRels S g cell us ys → eqCells ks vs us = some r → (Op.equalIn (d + e) t (.agg xs) (.agg ys)).run P w = .ok r w)
  | 0, t, ks, e, h => by simp [eqKinds] at h
  | d + 1, t, ks, e, h => by
    have e1 : d + 1 + e = (d + e) + 1 := by omega
    rw [e1]
    refine ⟨fun u v x y r ha hu hv hr => ?_, fun vs us xs ys r ha hvs hus hr => ?_⟩
    · have hs := eqKinds_scal h ha
      have hk : ∃ k, ks = [k] := by rcases hs with ⟨_, _, rfl⟩ | ⟨_, rfl⟩ | ⟨_, rfl⟩ <;> exact ⟨_, rfl⟩
      obtain ⟨k, rfl⟩ := hk
      simp only [eqCells] at hr
      split at hr
      · rename_i x1 y1 hx1 hy1
        cases hy1; cases hr
        simp only [Bool.and_true]
        exact eqCell_run hu hv hx1 hs
      · cases hr
    · simp only [eqKinds] at h
      cases hd : P.underlying t with
      | none => simp [hd] at h
      | some dd =>
        cases dd
        case struct fs =>
          simp only [hd] at h
          split at h
          · cases h
          · rename_i hst
            have hfs : P.fieldsOf t = fs := by simp [Program.fieldsOf, hd]
            rw [run_equalIn_agg w (d + e) t xs ys (by rw [hfs]; exact hd) (by simpa using hst), hfs]
            have key : ∀ (l : List Field) (off : Nat) (ks : List K3) (r : Bool), eqFieldsK P (eqKinds P d) off l = some ks → eqCells ks (vs.drop off) (us.drop off) = some r → (Op.eqFields (d + e) xs ys l).run P w = .ok r w := by
              intro l
              induction l with
              | nil =>
                intro off ks r hk hr
                simp [eqFieldsK] at hk; subst hk
                have : r = true := by
                  generalize vs.drop off = v1 at hr
                  generalize us.drop off = u1 at hr
                  cases v1 <;> cases u1 <;> simp [eqCells] at hr
                  exact hr
                subst this; rfl
              | cons f l ih =>
                intro off ks r hk hr
                simp only [eqFieldsK] at hk
                split at hk
                · rename_i hf
                  split at hk
                  · rename_i k1 i ag g1 g2 g3
                    split at hk
                    · rename_i hsz
                      split at hk
                      · rename_i k2 hk2
                        cases hk
                        obtain ⟨r1, r2, q1, q2, rfl⟩ := eqCells_append hr
                        simp only [hsz.1, List.drop_drop] at q2
                        rw [hsz.1] at q1
                        have hl1 := (eqCells_length q1).1
                        have hl2 := (eqCells_length q1).2
                        rw [List.length_take, List.length_drop] at hl1 hl2
                        have hsz1 := hsz.1
                        have hsz3 := hsz.2.2
                        have hx : off + i.size ≤ xs.size := by rw [← hvs.1]; omega
                        have hy : off + i.size ≤ ys.size := by rw [← hus.1]; omega
                        have ih' := ih (off + i.size) k2 r2 hk2 q2
                        have hpx := run_part (P := P) (w := w) (us := xs) (off := f.offset) g2 g3 hsz.2.1 (by rw [hf.1]; exact hx)
                        have hpy := run_part (P := P) (w := w) (us := ys) (off := f.offset) g2 g3 hsz.2.1 (by rw [hf.1]; exact hy)
                        obtain ⟨s1, s2⟩ := eq_run (cell := cell) d f.type k1 e g1
                        have heq : (Op.equalIn (d + e) f.type (if ag then .agg (xs.extract f.offset (f.offset + i.size)) else xs.getD f.offset undef) (if ag then .agg (ys.extract f.offset (f.offset + i.size)) else ys.getD f.offset undef)).run P w = .ok r1 w := by
                          rw [hf.1]
                          cases ag with
                          | true =>
                            refine s2 _ _ _ _ r1 g3 ⟨?_, fun j u hu => ?_⟩ ⟨?_, fun j u hu => ?_⟩ q1
                            · simp; omega
                            · have hj : j < i.size := by have := (List.getElem?_eq_some_iff.1 hu).1; simp at this; omega
                              have hu' : vs[off + j]? = some u := by simpa [List.getElem?_take, hj] using hu
                              have hlt : off + j < xs.size := by omega
                              have e2 : (xs.extract off (off + i.size)).getD j undef = xs.getD (off + j) undef := by
                                simp [hlt, show j < min (off + i.size) xs.size - off by omega]
                              rw [e2]; exact hvs.2 _ u hu'
                            · simp; omega
                            · have hj : j < i.size := by have := (List.getElem?_eq_some_iff.1 hu).1; simp at this; omega
                              have hu' : us[off + j]? = some u := by simpa [List.getElem?_take, hj] using hu
                              have hlt : off + j < ys.size := by omega
                              have e2 : (ys.extract off (off + i.size)).getD j undef = ys.getD (off + j) undef := by
                                simp [hlt, show j < min (off + i.size) ys.size - off by omega]
                              rw [e2]; exact hus.2 _ u hu'
                          | false =>
                            have hs1 := hsz.2.1.resolve_left (by simp)
                            have hv0 : vs.drop off = vs[off]'(by omega) :: vs.drop (off + 1) := List.drop_eq_getElem_cons _
                            have hu0 : us.drop off = us[off]'(by omega) :: us.drop (off + 1) := List.drop_eq_getElem_cons _
                            rw [hs1, hv0, hu0] at q1
                            simp only [List.take_succ_cons, List.take_zero] at q1
                            exact s1 _ _ _ _ r1 g3 (hvs.2 off _ (List.getElem?_eq_getElem _)) (hus.2 off _ (List.getElem?_eq_getElem _)) q1
                        simp only [Op.eqFields, ne_eq, hf.2, not_false_eq_true, if_true, Sem.run_bind, hpx, hpy, Result.andThen_ok, heq]
                        cases r1
                        · simp
                        · simp [ih']
                      · cases hk
                    · cases hk
                  · cases hk
                · cases hk
            exact key fs.toList 0 ks r h (by simpa using hr)
        all_goals simp [aggT, hd] at ha

theorem goes_eqv {op : BinOp} {t yt : TypeId} {x y : Operand} {u v : AV} {ag : Bool} {ks : List K3} {r : Bool} (hop : op = .eql ∨ op = .neq) (ho : o.op = .binOp op t x y yt) (hk : eqFlat P t = some (ag, ks)) (hW : WRel w0 M R S g w) (hu : VRel S g (stab w0 R) u (a.eval x)) (hv : VRel S g (stab w0 R) v (a.eval y))
    (he : evalEq ag ks u v = some r) : Goes P w0 M R S g a w o S (.bool (if (match op with | .neq => true | _ => false) then !r else r)) := by
  suffices h : (eqGuard op t x y (a.eval x) (a.eval y)).run P w = .ok () w ∧ (Op.equalIn 10000 t (a.eval x) (a.eval y)).run P w = .ok r w ∧ ((∃ xs ys, a.eval x = .agg xs ∧ a.eval y = .agg ys) ∨ ∃ b c, a.eval x = .bool b ∧ a.eval y = .bool c) by
    obtain ⟨h1, h2, h3⟩ := h
    refine goes_same hW (run_of_value (s := do eqGuard op t x y (a.eval x) (a.eval y); binOp op t (a.eval x) (a.eval y)) (by unfold execOp; simp only [ho]) (cv := .bool (if (match op with | .neq => true | _ => false) then !r else r)) ?_) (.bool _)
    simp only [Sem.run_bind, h1, Result.andThen_ok]
    rcases h3 with ⟨xs, ys, e1, e2⟩ | ⟨b, c, e1, e2⟩
    · rw [e1, e2] at h2 ⊢
      rcases hop with rfl | rfl
      · rw [run_eql_struct, h2]; rfl
      · rw [run_neq_struct, h2]; rfl
    · rw [e1, e2] at h2 ⊢
      rcases hop with rfl | rfl <;> simp [binOp, Op.equal, Op.maxDepth, h2]
  unfold eqFlat at hk
  cases hd : P.underlying t with
  | none => simp [hd] at hk
  | some dd =>
    cases dd
    case bool =>
      simp only [hd, Option.some.injEq, Prod.mk.injEq] at hk; obtain ⟨rfl, rfl⟩ := hk
      cases u <;> cases v <;> simp [evalEq, eqCells, eqCell] at he
      subst he
      rw [hu.bool_inv, hv.bool_inv]
      exact ⟨by rcases hop with rfl | rfl <;> simp [eqGuard], run_equalIn_bool' w 9999 t _ _ hd, .inr ⟨_, _, rfl, rfl⟩⟩
    case struct fs =>
      simp only [hd] at hk
      split at hk
      · cases hk
      · rename_i hg
        simp only [Option.map_eq_some_iff, Prod.mk.injEq] at hk
        obtain ⟨ks', hk, rfl, rfl⟩ := hk
        have hagg : aggT P t = some true := by simp [aggT, hd]
        have : ∃ cs ds, u = .agg cs ∧ v = .agg ds ∧ eqCells ks' cs ds = some r := by
          unfold evalEq at he
          simp only [if_true] at he
          split at he
          · exact ⟨_, _, rfl, rfl, he⟩
          · cases he
        obtain ⟨cs, ds, rfl, rfl, hc⟩ := this
        obtain ⟨xs, e1, l1, r1⟩ := hu.agg_inv
        obtain ⟨ys, e2, l2, r2⟩ := hv.agg_inv
        rw [e1, e2]
        refine ⟨run_eqGuard_agg w op t x y xs ys (by simpa using hg), ?_, .inl ⟨xs, ys, rfl, rfl⟩⟩
        exact (eq_run 12 t ks' 9988 hk).2 cs ds xs ys r hagg ⟨l1, r1⟩ ⟨l2, r2⟩ hc
    all_goals simp [hd] at hk
end
end Go.Ae
namespace Go.Ae
open Go.RowKit
set_option linter.unusedVariables false
set_option linter.unusedSimpArgs false
section
variable {P : Program} {w w0 : World} {M : Nat → Nat → Path → Option Nat} {R : Nat → Prop} {S : St} {g : G} {a : Act} {o : Oper}

theorem foldl_set : ∀ (l : List Value) (k off : Nat) (arr : Array Value), off + k + l.length ≤ arr.size →
    ((l.zipIdx k).foldl (fun cs x => cs.setIfInBounds (off + x.2) x.1) arr).size = arr.size ∧
    ∀ i, ((l.zipIdx k).foldl (fun cs x => cs.setIfInBounds (off + x.2) x.1) arr)[i]? = if off + k ≤ i ∧ i < off + k + l.length then l[i - (off + k)]? else arr[i]?
  | [], k, off, arr, h => ⟨rfl, fun i => by simp; intro h1 h2; omega⟩
  | v :: r, k, off, arr, h => by
    simp only [List.zipIdx_cons, List.foldl_cons]
    obtain ⟨h1, h2⟩ := foldl_set r (k + 1) off (arr.setIfInBounds (off + k) v) (by simp at h ⊢; omega)
    refine ⟨by rw [h1]; simp, fun i => ?_⟩
    rw [h2]
    simp only [List.length_cons] at h ⊢
    by_cases hi : i = off + k
    · subst hi
      rw [if_neg (by omega), if_pos (by omega)]
      have hlt : off + k < arr.size := by omega
      simp [hlt]
    · by_cases hlt : off + k ≤ i ∧ i < off + k + (r.length + 1)
      · rw [if_pos (by omega), if_pos hlt]
        have e : i - (off + k) = (i - (off + (k + 1))) + 1 := by omega
        rw [e, List.getElem?_cons_succ]
      · rw [if_neg (by omega), if_neg hlt, Array.getElem?_setIfInBounds_ne (by omega)]

/-- One part laid into the cells. -/
theorem fill_one {cell : Addr → Option Value} {cs ws : List AV} {arr : Array Value} {v : Value} {off n : Nat} (hc : VRels S g cell cs arr) (hw : ws.length = v.cells.size ∧ ∀ (i : Nat) (u : AV), ws[i]? = some u → VRel S g cell u (v.cells.getD i undef)) (hn : ws.length = n) (hl : off + n ≤ cs.length) :
    VRels S g cell (cs.take off ++ ws ++ cs.drop (off + n)) (v.cells.zipIdx.foldl (fun cs x => cs.setIfInBounds (off + x.2) x.1) arr) := by
  have e : v.cells.zipIdx.foldl (fun cs x => cs.setIfInBounds (off + x.2) x.1) arr = (v.cells.toList.zipIdx 0).foldl (fun cs x => cs.setIfInBounds (off + x.2) x.1) arr := by
    rw [← Array.foldl_toList, Array.toList_zipIdx]
  rw [e]
  have hvs : v.cells.toList.length = n := by simp; omega
  obtain ⟨h1, h2⟩ := foldl_set v.cells.toList 0 off arr (by rw [hvs, ← hc.1]; omega)
  refine ⟨by rw [h1, ← hc.1]; simp; omega, fun i u hu => ?_⟩
  simp only [Array.getD_eq_getD_getElem?]
  rw [h2]
  simp only [Nat.add_zero, hvs]
  by_cases hi : off ≤ i ∧ i < off + n
  · rw [if_pos hi]
    have hu' : ws[i - off]? = some u := by
      rw [List.append_assoc, List.getElem?_append_right (by simp; omega), List.getElem?_append_left (by simp; omega)] at hu
      have e1 : min off cs.length = off := by omega
      simpa [e1] using hu
    have := hw.2 _ u hu'
    rw [Array.getElem?_toList]
    simpa using this
  · rw [if_neg hi]
    have hu' : cs[i]? = some u := by
      by_cases h3 : i < off
      · rw [List.append_assoc, List.getElem?_append_left (by simp; omega), List.getElem?_take, if_pos h3] at hu
        exact hu
      · rw [List.getElem?_append_right (by simp; omega), List.getElem?_drop] at hu
        simp only [List.length_append, List.length_take] at hu
        have e2 : off + n + (i - (min off cs.length + ws.length)) = i := by omega
        rw [e2] at hu; exact hu
    have := hc.2 i u hu'
    simpa using this

theorem places_get : ∀ (fs : List Field), (fs.all fun f => (P.info? f.type).isSome) = true → ∃ pl, fs.mapM (fun f => (P.info? f.type).map fun i => (f.offset, i.size)) = some pl ∧ ∀ (k : Nat) (f : Field) (i : TypeInfo), fs[k]? = some f → P.info? f.type = some i → pl[k]? = some (f.offset, i.size)
  | [], _ => ⟨[], by simp, fun k f i h => by simp at h⟩
  | f :: r, h => by
    simp only [List.all_cons, Bool.and_eq_true] at h
    obtain ⟨i, hi⟩ := Option.isSome_iff_exists.1 h.1
    obtain ⟨pl, h1, h2⟩ := places_get r h.2
    refine ⟨(f.offset, i.size) :: pl, by simp [List.mapM_cons, hi, h1], fun k f' i' hf hi' => ?_⟩
    cases k with
    | zero => simp at hf; subst hf; rw [hi] at hi'; cases hi'; rfl
    | succ k => simpa using h2 k f' i' (by simpa using hf) hi'

theorem goes_build {t : TypeId} {parts : Array (Nat × Operand)} {fs : Array Field} {zero cs : List AV} {l : List (Nat × Nat × X)} (ho : o.op = .build t parts) (hz : zeroOf P t = some zero) (ht : P.underlying t = some (.struct fs)) (hall : (fs.all fun f => (P.info? f.type).isSome) = true)
    (hc : parts.toList.foldr (fun p acc => match fs[p.1]?, acc with
        | some f, some l => match cX P f.type p.2, P.info? f.type with | some x, some i => some ((f.offset, i.size, x) :: l) | _, _ => none
        | _, _ => none) (some []) = some l) (hW : WRel w0 M R S g w) (hT : TRel S g (stab w0 R) a) (hf : fillCells S zero l = some cs) : Goes P w0 M R S g a w o S (.agg cs) := by
  unfold zeroOf at hz
  split at hz
  · rename_i zs it hz1 hit
    split at hz
    · rename_i z hzz
      split at hz
      · rename_i hok
        cases hz
        simp only [Bool.and_eq_true] at hok
        obtain ⟨z1, z2⟩ := zeros_rel (S := S) (g := g) (cell := stab w0 R) hok.1
        have hzr : VRels S g (stab w0 R) zero z.cells := ⟨by simpa using z1, fun i u hu => by
          obtain ⟨cv, c1, c2⟩ := z2 i u hu
          rw [Array.getElem?_toList] at c1
          simpa [c1] using c2⟩
        obtain ⟨pl, hp1, hp2⟩ := places_get (P := P) fs.toList (by simpa using hall)
        have key : ∀ (ps : List (Nat × Operand)) (l : List (Nat × Nat × X)) (cs0 cs1 : List AV) (arr : Array Value), ps.foldr (fun p acc => match fs[p.1]?, acc with
            | some f, some l => match cX P f.type p.2, P.info? f.type with | some x, some i => some ((f.offset, i.size, x) :: l) | _, _ => none
            | _, _ => none) (some []) = some l → fillCells S cs0 l = some cs1 → VRels S g (stab w0 R) cs0 arr → ∃ arr', Instr.fill (fun x => pl[x]?) arr (ps.map fun p => (p.1, a.eval p.2)) = some arr' ∧ VRels S g (stab w0 R) cs1 arr' := by
          intro ps
          induction ps with
          | nil => intro l cs0 cs1 arr h1 h2 h3; simp at h1; subst h1; simp [fillCells] at h2; subst h2; exact ⟨arr, rfl, h3⟩
          | cons p ps ih =>
            intro l cs0 cs1 arr h1 h2 h3
            simp only [List.foldr_cons] at h1
            split at h1
            · rename_i f l' hf1 hl'
              split at h1
              · rename_i x i hx hi
                cases h1
                simp only [fillCells] at h2
                split at h2
                · rename_i ws hws
                  split at h2
                  · rename_i hcond
                    have hv := evalX_rel (S := S) (g := g) (cell := stab w0 R) hx hT
                    have hcells := cells_rel hv hws
                    have hstep := fill_one h3 hcells hcond.1 hcond.2
                    obtain ⟨arr', e1, e2⟩ := ih _ _ _ _ hl' h2 hstep
                    refine ⟨arr', ?_, e2⟩
                    have hplace : pl[p.1]? = some (f.offset, i.size) := hp2 p.1 f i (by rw [Array.getElem?_toList]; exact hf1) hi
                    have hsz : (a.eval p.2).cells.size = i.size := by rw [← hcells.1, hcond.1]
                    have hle : f.offset + (a.eval p.2).cells.size ≤ arr.size := by rw [hsz, ← h3.1]; exact hcond.2
                    simp only [List.map_cons, Instr.fill, hplace]
                    rw [if_neg (by simp [hsz]; omega)]
                    exact e1
                  · cases h2
                · cases h2
              · cases h1
            · cases h1
        obtain ⟨arr', e1, e2⟩ := key parts.toList l zero cs z.cells hc hf hzr
        refine goes_same (cv := .agg arr') hW (run_of_value (s := Instr.build t (parts.map fun (i, x) => (i, a.eval x))) (by unfold execOp; simp only [ho]) ?_) (.agg cs arr' e2.1 e2.2)
        refine run_build w t _ arr' ?_
        unfold Program.built
        simp only [hit, ht, hzz, hp1]
        simpa using e1
      · cases hz
    · cases hz
  · cases hz

theorem rd_undef_getElem {arr : Array Value} {i : Nat} (h : i < arr.size) : arr[i]? = some (arr.getD i undef) := by simp [h]

theorem cellAt_set {xs : List (List AV)} {k : Nat} {row : List AV} {i c : Nat} {v : AV} (h : cellAt (xs.set k row) i c = some v) : (i = k ∧ k < xs.length ∧ row[c]? = some v) ∨ (i ≠ k ∧ cellAt xs i c = some v) := by
  unfold cellAt at h ⊢
  rw [List.getElem?_set] at h
  by_cases hk : k = i
  · subst hk
    simp only [if_true] at h
    by_cases hl : k < xs.length
    · simp only [hl, if_true] at h; exact .inl ⟨rfl, hl, h⟩
    · simp [hl] at h
  · simp only [hk, if_false] at h
    exact .inr ⟨fun e => hk e.symm, h⟩

/-- What a cell of a row that is made says. -/
def CellQ (S : St) (g : G) (cell : Addr → Option Value) (fl : Bool) (v : AV) (cv : Value) : Prop := (v.scal = true ∧ VRel S g cell v cv) ∨ ∃ f, v = .own f [] ∧ fl = false ∧ cv = .slice none 0 0
theorem rowCells_rel {cell : Addr → Option Value} {fl : Bool} : ∀ {ws cs : List AV} {us : Nat → Value}, rowCells fl ws = some cs → (∀ i v, ws[i]? = some v → VRel S g cell v (us i)) → cs.length = ws.length ∧ ∀ i v, cs[i]? = some v → CellQ S g cell fl v (us i)
  | [], cs, us, h, hv => by simp [rowCells] at h; subst h; exact ⟨rfl, fun i v h => by simp at h⟩
  | w :: r, cs, us, h, hv => by
    simp only [rowCells] at h
    split at h
    · rename_i r' hr
      obtain ⟨e1, e2⟩ := rowCells_rel (us := fun i => us (i + 1)) hr (fun i v hi => hv (i + 1) v (by simpa using hi))
      have plain : w.scal = true → some (w :: r') = some cs → cs.length = (w :: r).length ∧ ∀ i v, cs[i]? = some v → CellQ S g cell fl v (us i) := fun hs he => by
        cases he
        refine ⟨by simp [e1], fun i v hi => ?_⟩
        cases i with
        | zero => simp at hi; subst hi; exact .inl ⟨hs, hv 0 w (by simp)⟩
        | succ i => exact e2 i v (by simpa using hi)
      cases w with
      | nil f z =>
        simp only at h
        split at h
        · cases h
        · rename_i hfl
          cases h
          refine ⟨by simp [e1], fun i v hi => ?_⟩
          cases i with
          | zero =>
            simp at hi; subst hi
            have hz := (hv 0 (.nil f z) (by simp)).nil_inv
            exact .inr ⟨f, rfl, by simpa using hfl, hz⟩
          | succ i => exact e2 i v (by simpa using hi)
      | int k n => exact plain rfl (by simpa [AV.scal] using h)
      | bool b => exact plain rfl (by simpa [AV.scal] using h)
      | str s => exact plain rfl (by simpa [AV.scal] using h)
      | _ => simp [AV.scal] at h
    · cases h

/-- Literal rows, as the machine fills them. -/
theorem fillRows_rel {cell : Addr → Option Value} {sz : Nat} {fl : Bool} {e : TypeId} (hT : TRel S g cell a) : ∀ (ps : List (Nat × Operand)) (l : List (Nat × X)) (rows rows' : List (List AV)) (arr : Array Value),
    ps.foldr (fun p acc => match cX P e p.2, acc with | some x, some l => some ((p.1, x) :: l) | _, _ => none) (some []) = some l → fillRows fl sz rows (evalP S l) = some rows' → (∀ r ∈ rows, r.length = sz) → rows.length * sz = arr.size →
    (∀ i c v, cellAt rows i c = some v → CellQ S g cell fl v (arr.getD (i * sz + c) undef)) →
    ∃ arr', Instr.fill (fun i => some (i * sz, sz)) arr (ps.map fun p => (p.1, a.eval p.2)) = some arr' ∧ arr'.size = arr.size ∧ rows'.length = rows.length ∧ (∀ r ∈ rows', r.length = sz) ∧ (∀ i c v, cellAt rows' i c = some v → CellQ S g cell fl v (arr'.getD (i * sz + c) undef)) := by
  intro ps
  induction ps with
  | nil => intro l rows rows' arr h1 h2 h3 h4 h5; simp at h1; subst h1; simp [evalP, fillRows] at h2; subst h2; exact ⟨arr, rfl, rfl, rfl, h3, h5⟩
  | cons p ps ih =>
    intro l rows rows' arr h1 h2 h3 h4 h5
    simp only [List.foldr_cons] at h1
    split at h1
    · rename_i x l' hx hl'
      cases h1
      simp only [evalP, fillRows] at h2
      split at h2
      · rename_i ws hws
        split at h2
        · rename_i hcond
          split at h2
          · rename_i cs hcs
            have hcells := cells_rel (evalX_rel (S := S) (g := g) (cell := cell) hx hT) hws
            obtain ⟨hcl, hcv⟩ := rowCells_rel (us := fun i => (a.eval p.2).cells.getD i undef) hcs hcells.2
            have hmul : p.1 * sz + sz ≤ rows.length * sz := by
              have := Nat.mul_le_mul_right sz (show p.1 + 1 ≤ rows.length from hcond.1)
              rwa [Nat.add_mul, Nat.one_mul] at this
            have ev : (a.eval p.2).cells.zipIdx.foldl (fun cs x => cs.setIfInBounds (p.1 * sz + x.2) x.1) arr = ((a.eval p.2).cells.toList.zipIdx 0).foldl (fun cs x => cs.setIfInBounds (p.1 * sz + x.2) x.1) arr := by
              rw [← Array.foldl_toList, Array.toList_zipIdx]
            have hvs : (a.eval p.2).cells.toList.length = sz := by simp; rw [← hcells.1]; exact hcond.2
            obtain ⟨f1, f2⟩ := foldl_set (a.eval p.2).cells.toList 0 (p.1 * sz) arr (by rw [hvs, ← h4]; omega)
            have hstep : ∀ i c v, cellAt (rows.set p.1 cs) i c = some v → CellQ S g cell fl v (((a.eval p.2).cells.zipIdx.foldl (fun cs x => cs.setIfInBounds (p.1 * sz + x.2) x.1) arr).getD (i * sz + c) undef) := by
              intro i c v hv
              rw [ev]
              simp only [Array.getD_eq_getD_getElem?]
              rw [f2]
              simp only [Nat.add_zero, hvs]
              rcases cellAt_set hv with ⟨rfl, hlt, hc⟩ | ⟨hne, hc⟩
              · have hclt : c < sz := by have := (List.getElem?_eq_some_iff.1 hc).1; omega
                rw [if_pos (by omega)]
                have e3 : p.1 * sz + c - p.1 * sz = c := by omega
                rw [e3, Array.getElem?_toList]
                simpa using hcv c v hc
              · have hclt : c < sz := by
                  unfold cellAt at hc
                  split at hc
                  · rename_i r hr; rw [← h3 r (List.mem_of_getElem? hr)]; exact (List.getElem?_eq_some_iff.1 hc).1
                  · cases hc
                rw [if_neg (by
                  rintro ⟨q1, q2⟩
                  rcases Nat.lt_or_gt_of_ne hne with hlt | hgt
                  · have := Nat.mul_le_mul_right sz (show i + 1 ≤ p.1 from hlt)
                    rw [Nat.add_mul, Nat.one_mul] at this; omega
                  · have := Nat.mul_le_mul_right sz (show p.1 + 1 ≤ i from hgt)
                    rw [Nat.add_mul, Nat.one_mul] at this; omega)]
                simpa using h5 i c v hc
            obtain ⟨arr', e1, e2, e3, e4, e5⟩ := ih l' _ _ _ hl' h2 (fun r hr => by
              rcases List.mem_or_eq_of_mem_set hr with hr | rfl
              · exact h3 r hr
              · rw [hcl]; exact hcond.2) (by rw [List.length_set, ev, f1]; exact h4) hstep
            refine ⟨arr', ?_, by rw [e2, ev, f1], by rw [e3]; simp, e4, e5⟩
            simp only [List.map_cons, Instr.fill]
            have hsz : (a.eval p.2).cells.size = sz := by simpa using hvs
            rw [if_neg (by simp [hsz]; omega)]
            exact e1
          · cases h2
        · cases h2
      · cases h2
    · cases h1

theorem rep_get (zs : Array Value) (n : Nat) (h : 0 < zs.size) (i c : Nat) (hi : i < n) (hc : c < zs.size) : (((Array.range (n * zs.size)).map fun x => zs[x % zs.size]!))[i * zs.size + c]? = some (zs.getD c undef) := by
  have hlt : i * zs.size + c < n * zs.size := by
    have := Nat.mul_le_mul_right zs.size (show i + 1 ≤ n from hi)
    rw [Nat.add_mul, Nat.one_mul] at this; omega
  have e : (i * zs.size + c) % zs.size = c := by rw [Nat.add_comm, Nat.mul_comm, Nat.add_mul_mod_self_left, Nat.mod_eq_of_lt hc]
  simp [hlt, e, hc]

theorem exec_bslice {ρ : Operand → Value} {o : Oper} {t : TypeId} {len : Nat} {parts : Array (Nat × Operand)} (ho : o.op = .buildSlice t len parts) : execOp ρ o = (do pure (Next.value (← Instr.buildSlice t len (parts.map fun p => (p.1, ρ p.2))))) := by
  unfold execOp
  rw [ho]
theorem run_buildSlice' {t e : TypeId} {len : Nat} {parts : Array (Nat × Value)} {it : TypeInfo} {z : Value} {arr : Array Value} (ht : P.underlying t = some (.slice e)) (hit : P.info? e = some it) (hzz : it.zero = some z) (hbig : len * it.size ≤ 16777216)
    (hf : Instr.fill (fun i => some (i * it.size, it.size)) ((Array.range (len * it.size)).map (z.cells[· % z.cells.size]!)) parts.toList = some arr) : (Instr.buildSlice t len parts).run P w = .ok (.slice (some ⟨w.heap.size, 0, none⟩) len len) (w.alloc (.cells arr e)) := by
  have hne : ¬ (16777216 < len * it.size) := by omega
  have hzv : (zeroValue e).run P w = .ok z w := by simp [zeroValue, typeInfo, hit, hzz]
  unfold Instr.buildSlice
  simp only [Sem.run_bind, run_underlying ht, Result.andThen_ok, run_sizeOf' hit]
  by_cases hzero : len * it.size = 0
  · have e0 : (Array.range (len * it.size)).map (z.cells[· % z.cells.size]!) = (Array.range (len * it.size)).map ((#[] : Array Value)[· % (#[] : Array Value).size]!) := by rw [hzero]; simp
    rw [e0] at hf
    simp [hzero] at hf ⊢
    simp [hf, newRow]
  · simp [hzero, hne, hzv]
    rw [hf]
    simp [newRow]

theorem zeroRow_get {zero : List AV} {c : Nat} {v : AV} (h : (zeroRow zero)[c]? = some v) : ∃ u, zero[c]? = some u ∧ ((v = u ∧ ∀ f z, u ≠ .nil f z) ∨ ∃ f z, u = .nil f z ∧ v = .own f []) := by
  unfold zeroRow at h
  rw [List.getElem?_map] at h
  cases hu : zero[c]? with
  | none => simp [hu] at h
  | some u =>
    simp only [hu, Option.map_some, Option.some.injEq] at h
    subst h
    refine ⟨u, rfl, ?_⟩
    cases u <;> first | exact .inr ⟨_, _, rfl, rfl⟩ | exact .inl ⟨rfl, by simp⟩

theorem goes_bslice {t e : TypeId} {len : Nat} {parts : Array (Nat × Operand)} {zero : List AV} {rows : List (List AV)} {l : List (Nat × X)} {fl : Bool} {base : Nat} {S' : St} (ho : o.op = .buildSlice t len parts) (ht : P.underlying t = some (.slice e)) (hz : zeroOf P e = some zero) (hpos : 0 < zero.length) (hbig : len * zero.length ≤ 16777216)
    (hc : parts.toList.foldr (fun p acc => match cX P e p.2, acc with | some x, some l => some ((p.1, x) :: l) | _, _ => none) (some []) = some l) (hW : WRel w0 M R S g w) (hT : TRel S g (stab w0 R) a) (hf : fillRows fl zero.length (List.replicate len (zeroRow zero)) (evalP S l) = some rows)
    (hfl : fl = true → (zero.all AV.scal) = true) (hzs : (zero.all fun v => v.scal || v.isNil) = true)
    (hn : S.new base { ver := 0, sz := zero.length, box := false, fl, elems := rows } = some S') : Goes P w0 M R S g a w o S' (.sl 0 base 0 [] 0 len) := by
  unfold zeroOf at hz
  split at hz
  · rename_i zs it hz1 hit
    split at hz
    · rename_i z hzz
      split at hz
      · rename_i hok
        cases hz
        simp only [Bool.and_eq_true] at hok
        have hsize : zero.length = it.size := by simpa using hok.2
        obtain ⟨z1, z2⟩ := zeros_rel (S := S) (g := g) (cell := stab w0 R) hok.1
        have hzl : z.cells.size = zero.length := by rw [z1]; simp
        have hlen0 : (zeroRow zero).length = zero.length := by simp [zeroRow]
        let arr0 : Array Value := (Array.range (len * it.size)).map (z.cells[· % z.cells.size]!)
        have harr0 : arr0.size = len * zero.length := by simp [arr0, hsize]
        have h0 : ∀ i c v, cellAt (List.replicate len (zeroRow zero)) i c = some v → CellQ S g (stab w0 R) fl v (arr0.getD (i * zero.length + c) undef) := by
          intro i c v hv
          unfold cellAt at hv
          rw [List.getElem?_replicate] at hv
          by_cases hi : i < len
          · simp only [hi, if_true] at hv
            have hclt := (List.getElem?_eq_some_iff.1 hv).1
            have := rep_get z.cells len (by omega) i c hi (by omega)
            obtain ⟨u, hu, hcase⟩ := zeroRow_get hv
            obtain ⟨cv, c1, c2⟩ := z2 c u hu
            rw [Array.getElem?_toList] at c1
            have e1 : arr0 = (Array.range (len * z.cells.size)).map fun x => z.cells[x % z.cells.size]! := by simp only [arr0]; rw [← hsize, ← hzl]
            rw [hzl] at this e1
            rw [e1]
            simp only [Array.getD_eq_getD_getElem?]
            rw [this]
            simp only [Option.getD_some, Array.getD_eq_getD_getElem?, c1]
            rcases hcase with ⟨rfl, hnn⟩ | ⟨f, q, rfl, rfl⟩
            · left
              refine ⟨?_, c2⟩
              have := List.all_eq_true.1 hzs _ (List.mem_of_getElem? hu)
              simp only [Bool.or_eq_true] at this
              rcases this with h | h
              · exact h
              · cases v <;> simp [AV.isNil] at h
                exact absurd rfl (hnn _ _)
            · right
              refine ⟨f, rfl, ?_, c2.nil_inv⟩
              cases fl with
              | false => rfl
              | true =>
                have := List.all_eq_true.1 (hfl rfl) _ (List.mem_of_getElem? hu)
                simp [AV.scal] at this
          · simp [hi] at hv
        obtain ⟨arr, e1, e2, e3, e4, e5⟩ := fillRows_rel (P := P) (e := e) hT parts.toList l _ rows arr0 hc hf (fun r hr => by rw [List.eq_of_mem_replicate hr, hlen0]) (by rw [harr0]; simp) h0
        have hrl : rows.length = len := by rw [e3]; simp
        have e1' : Instr.fill (fun i => some (i * it.size, it.size)) ((Array.range (len * it.size)).map (z.cells[· % z.cells.size]!)) (parts.map fun p => (p.1, a.eval p.2)).toList = some arr := by
          rw [hsize] at e1
          rw [Array.toList_map]
          exact e1
        have hbig' : len * it.size ≤ 16777216 := by rw [← hsize]; exact hbig
        have hrun := run_buildSlice' (P := P) (w := w) ht hit hzz hbig' e1'
        have hex := run_of_value (exec_bslice (ρ := a.eval) ho) hrun
        obtain ⟨g', b1, b2, b3⟩ := newArr (elems := rows) (sz := zero.length) (fl := fl) (s := base) (S' := S') (w' := w.alloc (.cells arr e)) (arr := arr) (ty := e) (fz := (0, 0)) hW hn rfl rfl rfl (fun B hB => Below.heap_alloc w _ B hB) (heap_alloc_new w _) (by simp) (free_zero _) e4 hpos (by rw [hrl, e2, harr0]; exact Nat.le_refl _) (fun i c v hv => by
          have hlt : i * zero.length + c < arr.size := by
            unfold cellAt at hv
            split at hv
            · rename_i r' hr'
              have hi := (List.getElem?_eq_some_iff.1 hr').1
              have hcl := (List.getElem?_eq_some_iff.1 hv).1
              rw [e4 r' (List.mem_of_getElem? hr')] at hcl
              have := Nat.mul_le_mul_right zero.length (show i + 1 ≤ rows.length from hi)
              rw [Nat.add_mul, Nat.one_mul] at this
              rw [e2, harr0, ← hrl]; omega
            · cases hv
          exact ⟨_, rd_undef_getElem hlt, e5 i c v hv⟩)
        exact ⟨_, _, g', hex, b1, b2, b3 len len (by omega) (Nat.le_refl _) (by rw [e2, harr0]; exact Nat.le_refl _)⟩
      · cases hz
    · cases hz
  · cases hz

theorem wrap_i64_id {n : Int} (h0 : 0 ≤ n) (h : n ≤ 140737488355328) : IntKind.i64.wrap n = n := IntWalk.i64_in _ (by omega)

theorem run_makeSlice' {t e : TypeId} {it : TypeInfo} {z : Value} {n m : Int} (ht : P.underlying t = some (.slice e)) (hit : P.info? e = some it) (hzz : it.zero = some z) (h0 : 0 ≤ n) (h1 : n ≤ m) (h2 : m * it.bytes ≤ 140737488355328) (hm : m ≤ 140737488355328) :
    (Instr.makeSlice t (.int .i64 n) (.int .i64 m)).run P w = .ok (.slice (some ⟨w.heap.size, 0, none⟩) n.toNat m.toNat) (w.alloc (.cells ((Array.range (m.toNat * it.size)).map (z.cells[· % z.cells.size]!)) e)) := by
  have hzv : (zeroValue e).run P w = .ok z w := by simp [zeroValue, typeInfo, hit, hzz]
  have e1 := wrap_i64_id h0 (by omega)
  have e2 := wrap_i64_id (show 0 ≤ m by omega) hm
  have e3 : ¬ (281474976710656 : Int) < it.bytes * m := by rw [Int.mul_comm]; omega
  unfold Instr.makeSlice
  simp only [Sem.run_bind, run_underlying ht, Result.andThen_ok, asInt, asIntOf, Sem.run_pure, typeInfo, run_program, hit, e1, e2]
  simp [show ¬ m < 0 by omega, e3, show ¬ n < 0 by omega, show ¬ m < n by omega, run_sizeOf' hit]
  by_cases hzero : m.toNat * it.size = 0
  · have hr : Array.range 0 = #[] := rfl
    simp [hzero, newRow, hr]
  · simp [hzero, hzv, newRow]
theorem goes_mksl {t e : TypeId} {x y : Operand} {it : TypeInfo} {zero : List AV} {fl : Bool} {n m : Int} {base : Nat} {S' : St} (ho : o.op = .makeSlice t x y) (ht : P.underlying t = some (.slice e)) (hz : zeroOf P e = some zero) (hit : P.info? e = some it) (hpos : 0 < zero.length)
    (hW : WRel w0 M R S g w) (hx : VRel S g (stab w0 R) (.int .i64 n) (a.eval x)) (hy : VRel S g (stab w0 R) (.int .i64 m) (a.eval y)) (h0 : 0 ≤ n) (h1 : n ≤ m) (h2 : m * it.bytes ≤ 140737488355328) (hm : m ≤ 140737488355328) (hfl : fl = true → (zero.all AV.scal) = true) (hzs : (zero.all fun v => v.scal || v.isNil) = true)
    (hn : S.new base { ver := 0, sz := zero.length, box := false, fl, elems := List.replicate n.toNat (zeroRow zero) } = some S') : Goes P w0 M R S g a w o S' (.sl 0 base 0 [] 0 n.toNat) := by
  unfold zeroOf at hz
  rw [hit] at hz
  split at hz
  · rename_i zs it' hz1 hit'
    cases hit'
    split at hz
    · rename_i z hzz
      split at hz
      · rename_i hok
        cases hz
        simp only [Bool.and_eq_true] at hok
        have hsize : zero.length = it.size := by simpa using hok.2
        obtain ⟨z1, z2⟩ := zeros_rel (S := S) (g := g) (cell := stab w0 R) hok.1
        have hzl : z.cells.size = zero.length := by rw [z1]; simp
        have hrun := run_makeSlice' (P := P) (w := w) ht hit hzz h0 h1 h2 hm
        rw [← hx.int_inv, ← hy.int_inv] at hrun
        have hex : (execOp a.eval o).run P w = _ := run_of_value (s := Instr.makeSlice t (a.eval x) (a.eval y)) (by unfold execOp; rw [ho]) hrun
        have hlen : (zeroRow zero).length = zero.length := by simp [zeroRow]
        obtain ⟨g', b1, b2, b3⟩ := newArr (elems := List.replicate n.toNat (zeroRow zero)) (sz := zero.length) (fl := fl) (s := base) (S' := S') (w' := w.alloc (.cells ((Array.range (m.toNat * it.size)).map (z.cells[· % z.cells.size]!)) e)) (ty := e) (fz := (0, 0)) hW hn rfl rfl rfl
          (fun B hB => Below.heap_alloc w _ B hB) (heap_alloc_new w _) (by simp) (free_zero _) (fun r hr => by rw [List.eq_of_mem_replicate hr, hlen]) hpos (by simp [hsize]; exact Nat.mul_le_mul_right _ (by omega)) (fun i c v hv => by
          unfold cellAt at hv
          rw [List.getElem?_replicate] at hv
          by_cases hi : i < n.toNat
          · simp only [hi, if_true] at hv
            have hc := (List.getElem?_eq_some_iff.1 hv).1
            rw [hlen] at hc
            have hg := rep_get z.cells m.toNat (by omega) i c (by omega) (by omega)
            have hg1 : m.toNat * it.size = m.toNat * z.cells.size := by rw [hzl, hsize]
            have hg2 : i * zero.length = i * z.cells.size := by rw [hzl]
            refine ⟨z.cells.getD c undef, by rw [hg1, hg2]; exact hg, ?_⟩
            obtain ⟨u, hu, hcase⟩ := zeroRow_get hv
            obtain ⟨cv, c1, c2⟩ := z2 c u hu
            rw [Array.getElem?_toList] at c1
            have e4 : z.cells.getD c undef = cv := by simp [c1]
            rw [e4]
            rcases hcase with ⟨rfl, hnn⟩ | ⟨f, q, rfl, rfl⟩
            · left
              refine ⟨?_, c2⟩
              have := List.all_eq_true.1 hzs _ (List.mem_of_getElem? hu)
              simp only [Bool.or_eq_true] at this
              rcases this with h | h
              · exact h
              · cases v <;> simp [AV.isNil] at h
                exact absurd rfl (hnn _ _)
            · right
              refine ⟨f, rfl, ?_, c2.nil_inv⟩
              cases fl with
              | false => rfl
              | true =>
                have := List.all_eq_true.1 (hfl rfl) _ (List.mem_of_getElem? hu)
                simp [AV.scal] at this
          · simp [hi] at hv)
        exact ⟨_, _, g', hex, b1, b2, b3 n.toNat m.toNat (by simp) (by omega) (by simp [hsize])⟩
      · cases hz
    · cases hz
  · cases hz
end
end Go.Ae
