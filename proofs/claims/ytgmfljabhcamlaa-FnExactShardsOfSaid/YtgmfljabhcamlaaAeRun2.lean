/- More of the machine's operations, run. -/
import Derived.Test.YtgmfljabhcamlaaAeRun
namespace Go.Ae
open Go.RowKit
set_option linter.unusedVariables false
set_option linter.unusedSimpArgs false
section
variable {P : Program} {w w0 : World} {M : Nat → Nat → Path → Option Nat} {R : Nat → Prop} {S : St} {g : G} {a : Act} {o : Oper}

theorem box_common {ty : TypeId} {arr : Array Value} {ws : List AV} {base : Nat} {cs : List AV} {n : List (Nat × Blk)} {S' : St} (hW : WRel w0 M R S g w)
    (hv : ws.length = arr.size ∧ ∀ (i : Nat) (u : AV), ws[i]? = some u → VRel S g (stab w0 R) u (arr.getD i undef)) (hb : boxCells (base + 1) ws = some (cs, n)) (hne : cs.isEmpty = false)
    (hn : addNews S (n ++ [(base, { ver := 0, sz := cs.length, box := true, fl := false, elems := [cs] })]) = some S') :
    ∃ g', WRel w0 M R S' g' (w.alloc (.cells arr ty)) ∧ Ext S g S' g' ∧ VRel S' g' (stab w0 R) (.ptr 0 base 0 [] 0 0) (.pointer (some ⟨w.heap.size, 0, none⟩)) := by
  obtain ⟨S1, h1, h2⟩ := addNews_append hn
  obtain ⟨g1, a1, a2, a3, a4, a5⟩ := boxCells_rel (cvs := fun i => arr.getD i undef) hb h1 hW hv.2
  obtain ⟨g2, b1, b2, b3⟩ := newBox (ty := ty) (arr := arr) a1 (addNews_one h2) (by intro h; rw [h] at hne; cases hne) (by rw [a4, hv.1]) a5
  exact ⟨g2, b1, a2.trans b2, b3⟩

theorem goes_box {ty : TypeId} {x : Operand} {v : AV} {ws : List AV} {base : Nat} {cs : List AV} {n : List (Nat × Blk)} {S' : St} (ho : o.op = .box ty x) (hW : WRel w0 M R S g w)
    (hv : VRel S g (stab w0 R) v (a.eval x)) (hc : v.cells = some ws) (hb : boxCells (base + 1) ws = some (cs, n)) (hne : cs.isEmpty = false)
    (hn : addNews S (n ++ [(base, { ver := 0, sz := cs.length, box := true, fl := false, elems := [cs] })]) = some S') : Goes P w0 M R S g a w o S' (.ptr 0 base 0 [] 0 0) := by
  obtain ⟨g', h1, h2, h3⟩ := box_common (ty := ty) hW (cells_rel hv hc) hb hne hn
  exact ⟨_, _, g', run_of_value (s := Instr.box ty (a.eval x)) (by unfold execOp; simp only [ho]) (by simp [Instr.box, newVar, newRow]), h1, h2, h3⟩

theorem goes_alloc {ty : TypeId} {z : Value} {ws : List AV} {base : Nat} {cs : List AV} {n : List (Nat × Blk)} {S' : St} {inf : TypeInfo} (ho : o.op = .alloc ty) (hW : WRel w0 M R S g w)
    (hi : P.info? ty = some inf) (hz : inf.zero = some z) (hok : zerosOk ws z.cells.toList = true) (hb : boxCells (base + 1) ws = some (cs, n)) (hne : cs.isEmpty = false)
    (hn : addNews S (n ++ [(base, { ver := 0, sz := cs.length, box := true, fl := false, elems := [cs] })]) = some S') : Goes P w0 M R S g a w o S' (.ptr 0 base 0 [] 0 0) := by
  obtain ⟨z1, z2⟩ := zeros_rel (S := S) (g := g) (cell := stab w0 R) hok
  obtain ⟨g', h1, h2, h3⟩ := box_common (ty := ty) (arr := z.cells) hW ⟨by simpa using z1, fun i u hu => by
    obtain ⟨cv, c1, c2⟩ := z2 i u hu
    rw [Array.getElem?_toList] at c1
    simpa [c1] using c2⟩ hb hne hn
  exact ⟨_, _, g', run_of_value (s := Instr.alloc ty true (.tuple #[])) (by unfold execOp; simp only [ho]) (by simp [Instr.alloc, zeroValue, typeInfo, hi, hz, newVar, newRow]), h1, h2, h3⟩

/-! ### Reading memory -/
theorem blk_cell' {w : World} {B : Nat} {arr : Array Value} {ty : TypeId} {fz : Nat × Nat} (h : w.heap[B]? = some (.cells arr ty fz)) (i : Nat) : w.cell? ⟨B, i, none⟩ = arr[i]? := by simp [World.cell?, h]

/-- What a cell says, as it is handed on. -/
def outV (lv s ver : Nat) (p : Path) (i c : Nat) (v : AV) : AV := match v with | .own _ ys => .sl lv s ver (p ++ [(i, c)]) 0 ys.length | v => v.mapR (upR lv)
theorem outCells_get {lv s ver : Nat} {p : Path} {i : Nat} : ∀ (c : Nat) (vs : List AV) (j : Nat) (v : AV), vs[j]? = some v →
    (outCells lv s ver p i c vs)[j]? = some (outV lv s ver p i (c + j) v)
  | c, [], j, v, h => by simp at h
  | c, u :: r, j, v, h => by
    cases j with
    | zero =>
      simp at h; subst h
      cases u <;> simp [outCells, outV]
    | succ j =>
      have := outCells_get (lv := lv) (s := s) (ver := ver) (p := p) (i := i) (c + 1) r j v (by simpa using h)
      have e : c + 1 + j = c + (j + 1) := by omega
      rw [e] at this
      cases u <;> simpa [outCells] using this
theorem outCells_length {lv s ver : Nat} {p : Path} {i : Nat} : ∀ (c : Nat) (vs : List AV), (outCells lv s ver p i c vs).length = vs.length
  | c, [] => rfl
  | c, v :: r => by cases v <;> simp [outCells, outCells_length]

theorem navE_append : ∀ {p q : Path} {xs ys zs : List (List AV)}, navE xs p = some ys → navE ys q = some zs → navE xs (p ++ q) = some zs
  | [], q, xs, ys, zs, h1, h2 => by simp [navE] at h1; subst h1; simpa using h2
  | (i, c) :: p, q, xs, ys, zs, h1, h2 => by
    simp only [navE] at h1
    simp only [List.cons_append, navE]
    cases hu : cellAt xs i c with
    | none => simp [hu] at h1
    | some v =>
      cases v <;> simp only [hu] at h1 ⊢ <;> first | exact navE_append h1 h2 | cases h1
theorem cellAt_row {ys : List (List AV)} {i c : Nat} {row : List AV} (h : ys[i]? = some row) : cellAt ys i c = row[c]? := by simp [cellAt, h]

theorem rowSz_of {xs : List (List AV)} {n : Nat} (h : ∀ r ∈ xs, r.length = n) (hne : xs ≠ []) : rowSz xs = n := by
  cases xs with
  | nil => exact absurd rfl hne
  | cons r _ => exact h r (by simp)
theorem csz_row {b : Blk} {p : Path} {ys : List (List AV)} {i : Nat} {row : List AV} (h : ∀ r ∈ ys, r.length = csz b.sz p ys) (hi : ys[i]? = some row) : row.length = csz b.sz p ys := h row (List.mem_of_getElem? hi)

/-- A cell that is read, as a value. -/
theorem krel_out {lv s ver : Nat} {b : Blk} {p : Path} {ys : List (List AV)} {i c : Nat} {v : AV} {cv : Value} (hW : WRel w0 M R S g w) (hat : S.at lv s ver p = some (b, ys)) (hc : cellAt ys i c = some v)
    (hk : KRel (stab w0 R) S g lv s b p i c v cv) : VRel S g (stab w0 R) (outV lv s ver p i c v) cv := by
  obtain ⟨hb, hver, hn⟩ := at_blk hat
  cases v
  case own fl zs =>
    obtain ⟨k1, k2, k3, A, cap, rfl, k4, k5⟩ := hk
    refine .sl _ _ _ _ _ _ _ ⟨some b, blk_get hb, fun b' h => by cases h; omega⟩ ⟨_, _, _, rfl⟩ fun b' ys' hat' => ?_
    obtain ⟨hb', _, hn'⟩ := at_blk hat'
    rw [hb] at hb'; cases hb'
    have hnav : navE b.elems (p ++ [(i, c)]) = some zs := navE_append hn (by simp [navE, hc])
    rw [hnav] at hn'; cases hn'
    refine ⟨A, cap, rfl, k4, by simp, ?_⟩
    cases hB : g.θ lv s (p ++ [(i, c)]) with
    | none => rw [hB] at k5; exact k5
    | some B => rw [hB] at k5; exact ⟨by simpa using k5, fun h => by simp at h⟩
  all_goals exact hk.1

/-- The cells at an address of one's own. -/
theorem own_cells {lv s ver : Nat} {b : Blk} {p : Path} {ys : List (List AV)} {i c n : Nat} {row : List AV} {cv : Value} (hW : WRel w0 M R S g w) (hat : S.at lv s ver p = some (b, ys)) (hi : ys[i]? = some row)
    (hl : c + n ≤ row.length) (hp : PtrRel g lv s p b ys i c cv) : ∃ B arr ty fz, cv = .pointer (some ⟨B, i * csz b.sz p ys + c, none⟩) ∧ g.θ lv s p = some B ∧ w.heap[B]? = some (.cells arr ty fz) ∧ Free fz arr.size ∧ arr.size = g.κ B ∧
      row.length = csz b.sz p ys ∧ ys.length * csz b.sz p ys ≤ arr.size ∧ i * csz b.sz p ys + row.length ≤ arr.size ∧ ∀ j v, j < n → row[c + j]? = some v → ∃ u, arr[i * csz b.sz p ys + (c + j)]? = some u ∧ KRel (stab w0 R) S g lv s b p i (c + j) v u := by
  obtain ⟨hb, hver, hn⟩ := at_blk hat
  obtain ⟨B, hB, rfl⟩ := hp
  obtain ⟨c1, c2, c3⟩ := hW.cont lv s b p ys hb hn
  rw [hB] at c3
  obtain ⟨arr, ty, fz, a1, a2, a3, a4, a5⟩ := c3
  have hrow := csz_row c1 hi
  have hilt : i < ys.length := (List.getElem?_eq_some_iff.1 hi).1
  have hmul : i * csz b.sz p ys + row.length ≤ arr.size := by
    have : (i + 1) * csz b.sz p ys ≤ ys.length * csz b.sz p ys := Nat.mul_le_mul_right _ hilt
    rw [Nat.add_mul, Nat.one_mul] at this
    omega
  exact ⟨B, arr, ty, fz, rfl, hB, a1, a2, a3, hrow, a4, hmul, fun j v hj hv => a5 i (c + j) v (by rw [cellAt_row hi]; exact hv)⟩

theorem ofCells_rel {ag : Bool} {vs : List AV} {v : AV} {cell : Addr → Option Value} {us : Array Value} (h : AV.ofCells ag vs = some v) (hl : vs.length = us.size) (hr : ∀ i u, vs[i]? = some u → VRel S g cell u (us.getD i undef)) :
    VRel S g cell v (if ag then .agg us else us.getD 0 undef) := by
  unfold AV.ofCells at h
  cases ag with
  | true => simp at h; subst h; exact .agg vs us hl hr
  | false =>
    simp at h
    split at h
    · cases h; simpa using hr 0 v (by simp)
    · cases h

theorem run_loadVar {t : TypeId} {inf : TypeInfo} {ag : Bool} {ad : Addr} {us : Array Value} (hi : P.info? t = some inf) (hag : aggT P t = some ag) (h1 : ag = true ∨ inf.size = 1) (hs : us.size = inf.size)
    (hc : ∀ j, j < us.size → w.cell? (ad.add j) = some (us.getD j undef)) : (loadVar t ad).run P w = .ok (if ag then .agg us else us.getD 0 undef) w := by
  have hu : ∃ d, P.underlying t = some d ∧ (isAgg t).run P w = .ok ag w := by
    unfold aggT at hag
    cases hd : P.underlying t with
    | none => simp [hd] at hag
    | some d =>
      refine ⟨d, rfl, ?_⟩
      simp only [isAgg, Sem.run_bind, run_underlying hd, Result.andThen_ok]
      cases d <;> simp [hd] at hag <;> subst hag <;> rfl
  obtain ⟨d, hd, hag'⟩ := hu
  unfold loadVar
  simp only [Sem.run_bind, hag', Result.andThen_ok]
  cases ag with
  | true =>
    have hl := run_loadCells (P := P) w ad inf.size (fun j => us.getD j undef) (fun j hj => hc j (by omega))
    have he : ((List.range inf.size).map fun j => us.getD j undef).toArray = us := by
      apply Array.ext
      · simp [hs]
      · intro j h1 h2; simp [h2]
    rw [he] at hl
    simp [sizeOf, typeInfo, hi, hl]
  | false =>
    have := hc 0 (by have := h1.resolve_left (by simp); omega)
    have h0 : ad.add 0 = ad := by simp [Addr.add]
    rw [h0] at this
    simp [this]

theorem getD_of {arr : Array Value} {i : Nat} {u : Value} (h : arr[i]? = some u) : arr.getD i undef = u := by simp [h]

theorem goes_load_own {t : TypeId} {x : Operand} {inf : TypeInfo} {ag : Bool} {lv s ver : Nat} {p : Path} {i c : Nat} {b : Blk} {ys : List (List AV)} {row : List AV} {v : AV} (ho : o.op = .load t x) (hW : WRel w0 M R S g w)
    (hi : P.info? t = some inf) (hag : aggT P t = some ag) (h1 : ag = true ∨ inf.size = 1) (hv : VRel S g (stab w0 R) (.ptr lv s ver p i c) (a.eval x)) (hat : S.at lv s ver p = some (b, ys)) (hrow : ys[i]? = some row)
    (hl : c + inf.size ≤ row.length) (hof : AV.ofCells ag (outCells lv s ver p i c ((row.drop c).take inf.size)) = some v) : Goes P w0 M R S g a w o S v := by
  obtain ⟨B, arr, ty, fz, he, hB, a1, a2, a3, a4, a5, a6, a7⟩ := own_cells hW hat hrow hl (hv.ptr_inv.2 b ys hat)
  let us : Array Value := arr.extract (i * csz b.sz p ys + c) (i * csz b.sz p ys + c + inf.size)
  have hsz : us.size = inf.size := by simp [us]; omega
  have hget : ∀ j, j < inf.size → us.getD j undef = arr.getD (i * csz b.sz p ys + (c + j)) undef := by
    intro j hj
    have e1 : i * csz b.sz p ys + (c + j) = i * csz b.sz p ys + c + j := by omega
    have : i * csz b.sz p ys + c + j < arr.size := by omega
    simp [us, e1, hsz, hj, this, Array.getElem_extract]
  have hvals : VRel S g (stab w0 R) v (if ag then .agg us else us.getD 0 undef) := by
    refine ofCells_rel hof (by rw [outCells_length, hsz]; simp; omega) fun j u hu => ?_
    have hj : j < inf.size := by
      have := (List.getElem?_eq_some_iff.1 hu).1
      rw [outCells_length] at this; simp at this; omega
    have hrj : row[c + j]? = some (row[c + j]'(by omega)) := List.getElem?_eq_getElem _
    obtain ⟨u', hu', hk⟩ := a7 j _ hj hrj
    have hout := outCells_get (lv := lv) (s := s) (ver := ver) (p := p) (i := i) c ((row.drop c).take inf.size) j _ (by simp [List.getElem?_take, hj]; exact hrj)
    rw [hout] at hu
    rw [hget j hj, getD_of hu']
    have := krel_out hW hat (by rw [cellAt_row hrow]; exact hrj) hk
    have hu2 := Option.some.inj hu
    rw [← hu2]
    exact this
  refine goes_same (cv := if ag then .agg us else us.getD 0 undef) hW (run_of_value (s := Instr.loadAt t (a.eval x)) (by unfold execOp; simp only [ho]) ?_) hvals
  rw [he]
  simp only [Instr.loadAt, Instr.sureAddr, Sem.run_bind, Sem.run_pure, Result.andThen_ok]
  refine run_loadVar hi hag h1 hsz fun j hj => ?_
  rw [hsz] at hj
  rw [Addr.add_lit, blk_cell' a1, hget j hj]
  have : i * csz b.sz p ys + c + j < arr.size := by omega
  have e1 : i * csz b.sz p ys + (c + j) = i * csz b.sz p ys + c + j := by omega
  simp [e1, this]
end
end Go.Ae
