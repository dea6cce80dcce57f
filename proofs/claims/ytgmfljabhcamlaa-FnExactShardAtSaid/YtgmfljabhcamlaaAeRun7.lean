/- More of the machine's operations, run: literals; make. -/
import Derived.Test.YtgmfljabhcamlaaAeRun6
namespace Go.Ae
open Go.RowKit
set_option linter.unusedVariables false
set_option linter.unusedSimpArgs false
section
variable {P : Program} {w w0 : World} {M : Nat → Nat → Path → Option Nat} {R : Nat → Prop} {S : St} {g : G} {a : Act} {o : Oper}

theorem foldl_set : ∀ (l : List Value) (k off : Nat) (arr : Array Value), off + k + l.length ≤ arr.size →
    ((l.zipIdx k).foldl (fun cs x => cs.setIfInBounds (off + x.2) x.1) arr).size = arr.size ∧
    ∀ i, ((l.zipIdx k).foldl (fun cs x => cs.setIfInBounds (off + x.2) x.1) arr)[i]? = if off + k ≤ i ∧ i < off + k + l.length then l[i - (off + k)]? else arr[i]?
  | [], k, off, arr, h => ⟨rfl, fun i => by simp; intro h1 h2; omega⟩
  | v :: r, k, off, arr, h => by
    simp only [List.zipIdx_cons, List.foldl_cons]
    obtain ⟨h1, h2⟩ := foldl_set r (k + 1) off (arr.setIfInBounds (off + k) v) (by simp at h ⊢; omega)
    refine ⟨by rw [h1]; simp, fun i => ?_⟩
    rw [h2]
    simp only [List.length_cons] at h ⊢
    by_cases hi : i = off + k
    · subst hi
      rw [if_neg (by omega), if_pos (by omega)]
      have hlt : off + k < arr.size := by omega
      simp [hlt]
    · by_cases hlt : off + k ≤ i ∧ i < off + k + (r.length + 1)
      · rw [if_pos (by omega), if_pos hlt]
        have e : i - (off + k) = (i - (off + (k + 1))) + 1 := by omega
        rw [e, List.getElem?_cons_succ]
      · rw [if_neg (by omega), if_neg hlt, Array.getElem?_setIfInBounds_ne (by omega)]

/-- One part laid into the cells. -/
theorem fill_one {cell : Addr → Option Value} {cs ws : List AV} {arr : Array Value} {v : Value} {off n : Nat} (hc : VRels S g cell cs arr) (hw : ws.length = v.cells.size ∧ ∀ (i : Nat) (u : AV), ws[i]? = some u → VRel S g cell u (v.cells.getD i undef)) (hn : ws.length = n) (hl : off + n ≤ cs.length) :
    VRels S g cell (cs.take off ++ ws ++ cs.drop (off + n)) (v.cells.zipIdx.foldl (fun cs x => cs.setIfInBounds (off + x.2) x.1) arr) := by
  have e : v.cells.zipIdx.foldl (fun cs x => cs.setIfInBounds (off + x.2) x.1) arr = (v.cells.toList.zipIdx 0).foldl (fun cs x => cs.setIfInBounds (off + x.2) x.1) arr := by
    rw [← Array.foldl_toList, Array.toList_zipIdx]
  rw [e]
  have hvs : v.cells.toList.length = n := by simp; omega
  obtain ⟨h1, h2⟩ := foldl_set v.cells.toList 0 off arr (by rw [hvs, ← hc.1]; omega)
  refine ⟨by rw [h1, ← hc.1]; simp; omega, fun i u hu => ?_⟩
  simp only [Array.getD_eq_getD_getElem?]
  rw [h2]
  simp only [Nat.add_zero, hvs]
  by_cases hi : off ≤ i ∧ i < off + n
  · rw [if_pos hi]
    have hu' : ws[i - off]? = some u := by
      rw [List.append_assoc, List.getElem?_append_right (by simp; omega), List.getElem?_append_left (by simp; omega)] at hu
      have e1 : min off cs.length = off := by omega
      simpa [e1] using hu
    have := hw.2 _ u hu'
    rw [Array.getElem?_toList]
    simpa using this
  · rw [if_neg hi]
    have hu' : cs[i]? = some u := by
      by_cases h3 : i < off
      · rw [List.append_assoc, List.getElem?_append_left (by simp; omega), List.getElem?_take, if_pos h3] at hu
        exact hu
      · rw [List.getElem?_append_right (by simp; omega), List.getElem?_drop] at hu
        simp only [List.length_append, List.length_take] at hu
        have e2 : off + n + (i - (min off cs.length + ws.length)) = i := by omega
        rw [e2] at hu; exact hu
    have := hc.2 i u hu'
    simpa using this

theorem places_get : ∀ (fs : List Field), (fs.all fun f => (P.info? f.type).isSome) = true → ∃ pl, fs.mapM (fun f => (P.info? f.type).map fun i => (f.offset, i.size)) = some pl ∧ ∀ (k : Nat) (f : Field) (i : TypeInfo), fs[k]? = some f → P.info? f.type = some i → pl[k]? = some (f.offset, i.size)
  | [], _ => ⟨[], by simp, fun k f i h => by simp at h⟩
  | f :: r, h => by
    simp only [List.all_cons, Bool.and_eq_true] at h
    obtain ⟨i, hi⟩ := Option.isSome_iff_exists.1 h.1
    obtain ⟨pl, h1, h2⟩ := places_get r h.2
    refine ⟨(f.offset, i.size) :: pl, by simp [List.mapM_cons, hi, h1], fun k f' i' hf hi' => ?_⟩
    cases k with
    | zero => simp at hf; subst hf; rw [hi] at hi'; cases hi'; rfl
    | succ k => simpa using h2 k f' i' (by simpa using hf) hi'

theorem goes_build {t : TypeId} {parts : Array (Nat × Operand)} {fs : Array Field} {zero cs : List AV} {l : List (Nat × Nat × X)} (ho : o.op = .build t parts) (hz : zeroOf P t = some zero) (ht : P.underlying t = some (.struct fs)) (hall : (fs.all fun f => (P.info? f.type).isSome) = true)
    (hc : parts.toList.foldr (fun p acc => match fs[p.1]?, acc with
        | some f, some l => match cX P f.type p.2, P.info? f.type with | some x, some i => some ((f.offset, i.size, x) :: l) | _, _ => none
        | _, _ => none) (some []) = some l) (hW : WRel w0 M R S g w) (hT : TRel S g (stab w0 R) a) (hf : fillCells S zero l = some cs) : Goes P w0 M R S g a w o S (.agg cs) := by
  unfold zeroOf at hz
  split at hz
  · rename_i zs it hz1 hit
    split at hz
    · rename_i z hzz
      split at hz
      · rename_i hok
        cases hz
        simp only [Bool.and_eq_true] at hok
        obtain ⟨z1, z2⟩ := zeros_rel (S := S) (g := g) (cell := stab w0 R) hok.1
        have hzr : VRels S g (stab w0 R) zero z.cells := ⟨by simpa using z1, fun i u hu => by
          obtain ⟨cv, c1, c2⟩ := z2 i u hu
          rw [Array.getElem?_toList] at c1
          simpa [c1] using c2⟩
        obtain ⟨pl, hp1, hp2⟩ := places_get (P := P) fs.toList (by simpa using hall)
        have key : ∀ (ps : List (Nat × Operand)) (l : List (Nat × Nat × X)) (cs0 cs1 : List AV) (arr : Array Value), ps.foldr (fun p acc => match fs[p.1]?, acc with
            | some f, some l => match cX P f.type p.2, P.info? f.type with | some x, some i => some ((f.offset, i.size, x) :: l) | _, _ => none
            | _, _ => none) (some []) = some l → fillCells S cs0 l = some cs1 → VRels S g (stab w0 R) cs0 arr → ∃ arr', Instr.fill (fun x => pl[x]?) arr (ps.map fun p => (p.1, a.eval p.2)) = some arr' ∧ VRels S g (stab w0 R) cs1 arr' := by
          intro ps
          induction ps with
          | nil => intro l cs0 cs1 arr h1 h2 h3; simp at h1; subst h1; simp [fillCells] at h2; subst h2; exact ⟨arr, rfl, h3⟩
          | cons p ps ih =>
            intro l cs0 cs1 arr h1 h2 h3
            simp only [List.foldr_cons] at h1
            split at h1
            · rename_i f l' hf1 hl'
              split at h1
              · rename_i x i hx hi
                cases h1
                simp only [fillCells] at h2
                split at h2
                · rename_i ws hws
                  split at h2
                  · rename_i hcond
                    have hv := evalX_rel (S := S) (g := g) (cell := stab w0 R) hx hT
                    have hcells := cells_rel hv hws
                    have hstep := fill_one h3 hcells hcond.1 hcond.2
                    obtain ⟨arr', e1, e2⟩ := ih _ _ _ _ hl' h2 hstep
                    refine ⟨arr', ?_, e2⟩
                    have hplace : pl[p.1]? = some (f.offset, i.size) := hp2 p.1 f i (by rw [Array.getElem?_toList]; exact hf1) hi
                    have hsz : (a.eval p.2).cells.size = i.size := by rw [← hcells.1, hcond.1]
                    have hle : f.offset + (a.eval p.2).cells.size ≤ arr.size := by rw [hsz, ← h3.1]; exact hcond.2
                    simp only [List.map_cons, Instr.fill, hplace]
                    rw [if_neg (by simp [hsz]; omega)]
                    exact e1
                  · cases h2
                · cases h2
              · cases h1
            · cases h1
        obtain ⟨arr', e1, e2⟩ := key parts.toList l zero cs z.cells hc hf hzr
        refine goes_same (cv := .agg arr') hW (run_of_value (s := Instr.build t (parts.map fun (i, x) => (i, a.eval x))) (by unfold execOp; simp only [ho]) ?_) (.agg cs arr' e2.1 e2.2)
        refine run_build w t _ arr' ?_
        unfold Program.built
        simp only [hit, ht, hzz, hp1]
        simpa using e1
      · cases hz
    · cases hz
  · cases hz

theorem rd_undef_getElem {arr : Array Value} {i : Nat} (h : i < arr.size) : arr[i]? = some (arr.getD i undef) := by simp [h]

theorem cellAt_set {xs : List (List AV)} {k : Nat} {row : List AV} {i c : Nat} {v : AV} (h : cellAt (xs.set k row) i c = some v) : (i = k ∧ k < xs.length ∧ row[c]? = some v) ∨ (i ≠ k ∧ cellAt xs i c = some v) := by
  unfold cellAt at h ⊢
  rw [List.getElem?_set] at h
  by_cases hk : k = i
  · subst hk
    simp only [if_true] at h
    by_cases hl : k < xs.length
    · simp only [hl, if_true] at h; exact .inl ⟨rfl, hl, h⟩
    · simp [hl] at h
  · simp only [hk, if_false] at h
    exact .inr ⟨fun e => hk e.symm, h⟩

/-- What a cell of a row that is made says. -/
def CellQ (S : St) (g : G) (cell : Addr → Option Value) (fl : Bool) (v : AV) (cv : Value) : Prop := (v.scal = true ∧ VRel S g cell v cv) ∨ ∃ f, v = .own f [] ∧ fl = false ∧ cv = .slice none 0 0
theorem rowCells_rel {cell : Addr → Option Value} {fl : Bool} : ∀ {ws cs : List AV} {us : Nat → Value}, rowCells fl ws = some cs → (∀ i v, ws[i]? = some v → VRel S g cell v (us i)) → cs.length = ws.length ∧ ∀ i v, cs[i]? = some v → CellQ S g cell fl v (us i)
  | [], cs, us, h, hv => by simp [rowCells] at h; subst h; exact ⟨rfl, fun i v h => by simp at h⟩
  | w :: r, cs, us, h, hv => by
    simp only [rowCells] at h
    split at h
    · rename_i r' hr
      obtain ⟨e1, e2⟩ := rowCells_rel (us := fun i => us (i + 1)) hr (fun i v hi => hv (i + 1) v (by simpa using hi))
      have plain : w.scal = true → some (w :: r') = some cs → cs.length = (w :: r).length ∧ ∀ i v, cs[i]? = some v → CellQ S g cell fl v (us i) := fun hs he => by
        cases he
        refine ⟨by simp [e1], fun i v hi => ?_⟩
        cases i with
        | zero => simp at hi; subst hi; exact .inl ⟨hs, hv 0 w (by simp)⟩
        | succ i => exact e2 i v (by simpa using hi)
      cases w with
      | nil f z =>
        simp only at h
        split at h
        · cases h
        · rename_i hfl
          cases h
          refine ⟨by simp [e1], fun i v hi => ?_⟩
          cases i with
          | zero =>
            simp at hi; subst hi
            have hz := (hv 0 (.nil f z) (by simp)).nil_inv
            exact .inr ⟨f, rfl, by simpa using hfl, hz⟩
          | succ i => exact e2 i v (by simpa using hi)
      | int k n => exact plain rfl (by simpa [AV.scal] using h)
      | bool b => exact plain rfl (by simpa [AV.scal] using h)
      | str s => exact plain rfl (by simpa [AV.scal] using h)
      | _ => simp [AV.scal] at h
    · cases h

/-- Literal rows, as the machine fills them. -/
theorem fillRows_rel {cell : Addr → Option Value} {sz : Nat} {fl : Bool} {e : TypeId} (hT : TRel S g cell a) : ∀ (ps : List (Nat × Operand)) (l : List (Nat × X)) (rows rows' : List (List AV)) (arr : Array Value),
    ps.foldr (fun p acc => match cX P e p.2, acc with | some x, some l => some ((p.1, x) :: l) | _, _ => none) (some []) = some l → fillRows fl sz rows (evalP S l) = some rows' → (∀ r ∈ rows, r.length = sz) → rows.length * sz = arr.size →
    (∀ i c v, cellAt rows i c = some v → CellQ S g cell fl v (arr.getD (i * sz + c) undef)) →
    ∃ arr', Instr.fill (fun i => some (i * sz, sz)) arr (ps.map fun p => (p.1, a.eval p.2)) = some arr' ∧ arr'.size = arr.size ∧ rows'.length = rows.length ∧ (∀ r ∈ rows', r.length = sz) ∧ (∀ i c v, cellAt rows' i c = some v → CellQ S g cell fl v (arr'.getD (i * sz + c) undef)) := by
  intro ps
  induction ps with
  | nil => intro l rows rows' arr h1 h2 h3 h4 h5; simp at h1; subst h1; simp [evalP, fillRows] at h2; subst h2; exact ⟨arr, rfl, rfl, rfl, h3, h5⟩
  | cons p ps ih =>
    intro l rows rows' arr h1 h2 h3 h4 h5
    simp only [List.foldr_cons] at h1
    split at h1
    · rename_i x l' hx hl'
      cases h1
      simp only [evalP, fillRows] at h2
      split at h2
      · rename_i ws hws
        split at h2
        · rename_i hcond
          split at h2
          · rename_i cs hcs
            have hcells := cells_rel (evalX_rel (S := S) (g := g) (cell := cell) hx hT) hws
            obtain ⟨hcl, hcv⟩ := rowCells_rel (us := fun i => (a.eval p.2).cells.getD i undef) hcs hcells.2
            have hmul : p.1 * sz + sz ≤ rows.length * sz := by
              have := Nat.mul_le_mul_right sz (show p.1 + 1 ≤ rows.length from hcond.1)
              rwa [Nat.add_mul, Nat.one_mul] at this
            have ev : (a.eval p.2).cells.zipIdx.foldl (fun cs x => cs.setIfInBounds (p.1 * sz + x.2) x.1) arr = ((a.eval p.2).cells.toList.zipIdx 0).foldl (fun cs x => cs.setIfInBounds (p.1 * sz + x.2) x.1) arr := by
              rw [← Array.foldl_toList, Array.toList_zipIdx]
            have hvs : (a.eval p.2).cells.toList.length = sz := by simp; rw [← hcells.1]; exact hcond.2
            obtain ⟨f1, f2⟩ := foldl_set (a.eval p.2).cells.toList 0 (p.1 * sz) arr (by rw [hvs, ← h4]; omega)
            have hstep : ∀ i c v, cellAt (rows.set p.1 cs) i c = some v → CellQ S g cell fl v (((a.eval p.2).cells.zipIdx.foldl (fun cs x => cs.setIfInBounds (p.1 * sz + x.2) x.1) arr).getD (i * sz + c) undef) := by
              intro i c v hv
              rw [ev]
              simp only [Array.getD_eq_getD_getElem?]
              rw [f2]
              simp only [Nat.add_zero, hvs]
              rcases cellAt_set hv with ⟨rfl, hlt, hc⟩ | ⟨hne, hc⟩
              · have hclt : c < sz := by have := (List.getElem?_eq_some_iff.1 hc).1; omega
                rw [if_pos (by omega)]
                have e3 : p.1 * sz + c - p.1 * sz = c := by omega
                rw [e3, Array.getElem?_toList]
                simpa using hcv c v hc
              · have hclt : c < sz := by
                  unfold cellAt at hc
                  split at hc
                  · rename_i r hr; rw [← h3 r (List.mem_of_getElem? hr)]; exact (List.getElem?_eq_some_iff.1 hc).1
                  · cases hc
                rw [if_neg (by
                  rintro ⟨q1, q2⟩
                  rcases Nat.lt_or_gt_of_ne hne with hlt | hgt
                  · have := Nat.mul_le_mul_right sz (show i + 1 ≤ p.1 from hlt)
                    rw [Nat.add_mul, Nat.one_mul] at this; omega
                  · have := Nat.mul_le_mul_right sz (show p.1 + 1 ≤ i from hgt)
                    rw [Nat.add_mul, Nat.one_mul] at this; omega)]
                simpa using h5 i c v hc
            obtain ⟨arr', e1, e2, e3, e4, e5⟩ := ih l' _ _ _ hl' h2 (fun r hr => by
              rcases List.mem_or_eq_of_mem_set hr with hr | rfl
              · exact h3 r hr
              · rw [hcl]; exact hcond.2) (by rw [List.length_set, ev, f1]; exact h4) hstep
            refine ⟨arr', ?_, by rw [e2, ev, f1], by rw [e3]; simp, e4, e5⟩
            simp only [List.map_cons, Instr.fill]
            have hsz : (a.eval p.2).cells.size = sz := by simpa using hvs
            rw [if_neg (by simp [hsz]; omega)]
            exact e1
          · cases h2
        · cases h2
      · cases h2
    · cases h1

theorem rep_get (zs : Array Value) (n : Nat) (h : 0 < zs.size) (i c : Nat) (hi : i < n) (hc : c < zs.size) : (((Array.range (n * zs.size)).map fun x => zs[x % zs.size]!))[i * zs.size + c]? = some (zs.getD c undef) := by
  have hlt : i * zs.size + c < n * zs.size := by
    have := Nat.mul_le_mul_right zs.size (show i + 1 ≤ n from hi)
    rw [Nat.add_mul, Nat.one_mul] at this; omega
  have e : (i * zs.size + c) % zs.size = c := by rw [Nat.add_comm, Nat.mul_comm, Nat.add_mul_mod_self_left, Nat.mod_eq_of_lt hc]
  simp [hlt, e, hc]

theorem exec_bslice {ρ : Operand → Value} {o : Oper} {t : TypeId} {len : Nat} {parts : Array (Nat × Operand)} (ho : o.op = .buildSlice t len parts) : execOp ρ o = (do pure (Next.value (← Instr.buildSlice t len (parts.map fun p => (p.1, ρ p.2))))) := by
  unfold execOp
  rw [ho]
theorem run_buildSlice' {t e : TypeId} {len : Nat} {parts : Array (Nat × Value)} {it : TypeInfo} {z : Value} {arr : Array Value} (ht : P.underlying t = some (.slice e)) (hit : P.info? e = some it) (hzz : it.zero = some z) (hbig : len * it.size ≤ 16777216)
    (hf : Instr.fill (fun i => some (i * it.size, it.size)) ((Array.range (len * it.size)).map (z.cells[· % z.cells.size]!)) parts.toList = some arr) : (Instr.buildSlice t len parts).run P w = .ok (.slice (some ⟨w.heap.size, 0, none⟩) len len) (w.alloc (.cells arr e)) := by
  have hne : ¬ (16777216 < len * it.size) := by omega
  have hzv : (zeroValue e).run P w = .ok z w := by simp [zeroValue, typeInfo, hit, hzz]
  unfold Instr.buildSlice
  simp only [Sem.run_bind, run_underlying ht, Result.andThen_ok, run_sizeOf' hit]
  by_cases hzero : len * it.size = 0
  · have e0 : (Array.range (len * it.size)).map (z.cells[· % z.cells.size]!) = (Array.range (len * it.size)).map ((#[] : Array Value)[· % (#[] : Array Value).size]!) := by rw [hzero]; simp
    rw [e0] at hf
    simp [hzero] at hf ⊢
    simp [hf, newRow]
  · simp [hzero, hne, hzv]
    rw [hf]
    simp [newRow]

theorem zeroRow_get {zero : List AV} {c : Nat} {v : AV} (h : (zeroRow zero)[c]? = some v) : ∃ u, zero[c]? = some u ∧ ((v = u ∧ ∀ f z, u ≠ .nil f z) ∨ ∃ f z, u = .nil f z ∧ v = .own f []) := by
  unfold zeroRow at h
  rw [List.getElem?_map] at h
  cases hu : zero[c]? with
  | none => simp [hu] at h
  | some u =>
    simp only [hu, Option.map_some, Option.some.injEq] at h
    subst h
    refine ⟨u, rfl, ?_⟩
    cases u <;> first | exact .inr ⟨_, _, rfl, rfl⟩ | exact .inl ⟨rfl, by simp⟩

theorem goes_bslice {t e : TypeId} {len : Nat} {parts : Array (Nat × Operand)} {zero : List AV} {rows : List (List AV)} {l : List (Nat × X)} {fl : Bool} {base : Nat} {S' : St} (ho : o.op = .buildSlice t len parts) (ht : P.underlying t = some (.slice e)) (hz : zeroOf P e = some zero) (hpos : 0 < zero.length) (hbig : len * zero.length ≤ 16777216)
    (hc : parts.toList.foldr (fun p acc => match cX P e p.2, acc with | some x, some l => some ((p.1, x) :: l) | _, _ => none) (some []) = some l) (hW : WRel w0 M R S g w) (hT : TRel S g (stab w0 R) a) (hf : fillRows fl zero.length (List.replicate len (zeroRow zero)) (evalP S l) = some rows)
    (hfl : fl = true → (zero.all AV.scal) = true) (hzs : (zero.all fun v => v.scal || v.isNil) = true)
    (hn : S.new base { ver := 0, sz := zero.length, box := false, fl, elems := rows } = some S') : Goes P w0 M R S g a w o S' (.sl 0 base 0 [] 0 len) := by
  unfold zeroOf at hz
  split at hz
  · rename_i zs it hz1 hit
    split at hz
    · rename_i z hzz
      split at hz
      · rename_i hok
        cases hz
        simp only [Bool.and_eq_true] at hok
        have hsize : zero.length = it.size := by simpa using hok.2
        obtain ⟨z1, z2⟩ := zeros_rel (S := S) (g := g) (cell := stab w0 R) hok.1
        have hzl : z.cells.size = zero.length := by rw [z1]; simp
        have hlen0 : (zeroRow zero).length = zero.length := by simp [zeroRow]
        let arr0 : Array Value := (Array.range (len * it.size)).map (z.cells[· % z.cells.size]!)
        have harr0 : arr0.size = len * zero.length := by simp [arr0, hsize]
        have h0 : ∀ i c v, cellAt (List.replicate len (zeroRow zero)) i c = some v → CellQ S g (stab w0 R) fl v (arr0.getD (i * zero.length + c) undef) := by
          intro i c v hv
          unfold cellAt at hv
          rw [List.getElem?_replicate] at hv
          by_cases hi : i < len
          · simp only [hi, if_true] at hv
            have hclt := (List.getElem?_eq_some_iff.1 hv).1
            have := rep_get z.cells len (by omega) i c hi (by omega)
            obtain ⟨u, hu, hcase⟩ := zeroRow_get hv
            obtain ⟨cv, c1, c2⟩ := z2 c u hu
            rw [Array.getElem?_toList] at c1
            have e1 : arr0 = (Array.range (len * z.cells.size)).map fun x => z.cells[x % z.cells.size]! := by simp only [arr0]; rw [← hsize, ← hzl]
            rw [hzl] at this e1
            rw [e1]
            simp only [Array.getD_eq_getD_getElem?]
            rw [this]
            simp only [Option.getD_some, Array.getD_eq_getD_getElem?, c1]
            rcases hcase with ⟨rfl, hnn⟩ | ⟨f, q, rfl, rfl⟩
            · left
              refine ⟨?_, c2⟩
              have := List.all_eq_true.1 hzs _ (List.mem_of_getElem? hu)
              simp only [Bool.or_eq_true] at this
              rcases this with h | h
              · exact h
              · cases v <;> simp [AV.isNil] at h
                exact absurd rfl (hnn _ _)
            · right
              refine ⟨f, rfl, ?_, c2.nil_inv⟩
              cases fl with
              | false => rfl
              | true =>
                have := List.all_eq_true.1 (hfl rfl) _ (List.mem_of_getElem? hu)
                simp [AV.scal] at this
          · simp [hi] at hv
        obtain ⟨arr, e1, e2, e3, e4, e5⟩ := fillRows_rel (P := P) (e := e) hT parts.toList l _ rows arr0 hc hf (fun r hr => by rw [List.eq_of_mem_replicate hr, hlen0]) (by rw [harr0]; simp) h0
        have hrl : rows.length = len := by rw [e3]; simp
        have e1' : Instr.fill (fun i => some (i * it.size, it.size)) ((Array.range (len * it.size)).map (z.cells[· % z.cells.size]!)) (parts.map fun p => (p.1, a.eval p.2)).toList = some arr := by
          rw [hsize] at e1
          rw [Array.toList_map]
          exact e1
        have hbig' : len * it.size ≤ 16777216 := by rw [← hsize]; exact hbig
        have hrun := run_buildSlice' (P := P) (w := w) ht hit hzz hbig' e1'
        have hex := run_of_value (exec_bslice (ρ := a.eval) ho) hrun
        obtain ⟨g', b1, b2, b3⟩ := newArr (elems := rows) (sz := zero.length) (fl := fl) (s := base) (S' := S') (w' := w.alloc (.cells arr e)) (arr := arr) (ty := e) (fz := (0, 0)) hW hn rfl rfl rfl (fun B hB => Below.heap_alloc w _ B hB) (heap_alloc_new w _) (by simp) (free_zero _) e4 hpos (by rw [hrl, e2, harr0]; exact Nat.le_refl _) (fun i c v hv => by
          have hlt : i * zero.length + c < arr.size := by
            unfold cellAt at hv
            split at hv
            · rename_i r' hr'
              have hi := (List.getElem?_eq_some_iff.1 hr').1
              have hcl := (List.getElem?_eq_some_iff.1 hv).1
              rw [e4 r' (List.mem_of_getElem? hr')] at hcl
              have := Nat.mul_le_mul_right zero.length (show i + 1 ≤ rows.length from hi)
              rw [Nat.add_mul, Nat.one_mul] at this
              rw [e2, harr0, ← hrl]; omega
            · cases hv
          exact ⟨_, rd_undef_getElem hlt, e5 i c v hv⟩)
        exact ⟨_, _, g', hex, b1, b2, b3 len len (by omega) (Nat.le_refl _) (by rw [e2, harr0]; exact Nat.le_refl _)⟩
      · cases hz
    · cases hz
  · cases hz

theorem wrap_i64_id {n : Int} (h0 : 0 ≤ n) (h : n ≤ 140737488355328) : IntKind.i64.wrap n = n := IntWalk.i64_in _ (by omega)

theorem run_makeSlice' {t e : TypeId} {it : TypeInfo} {z : Value} {n m : Int} (ht : P.underlying t = some (.slice e)) (hit : P.info? e = some it) (hzz : it.zero = some z) (h0 : 0 ≤ n) (h1 : n ≤ m) (h2 : m * it.bytes ≤ 140737488355328) (hm : m ≤ 140737488355328) :
    (Instr.makeSlice t (.int .i64 n) (.int .i64 m)).run P w = .ok (.slice (some ⟨w.heap.size, 0, none⟩) n.toNat m.toNat) (w.alloc (.cells ((Array.range (m.toNat * it.size)).map (z.cells[· % z.cells.size]!)) e)) := by
  have hzv : (zeroValue e).run P w = .ok z w := by simp [zeroValue, typeInfo, hit, hzz]
  have e1 := wrap_i64_id h0 (by omega)
  have e2 := wrap_i64_id (show 0 ≤ m by omega) hm
  have e3 : ¬ (281474976710656 : Int) < it.bytes * m := by rw [Int.mul_comm]; omega
  unfold Instr.makeSlice
  simp only [Sem.run_bind, run_underlying ht, Result.andThen_ok, asInt, asIntOf, Sem.run_pure, typeInfo, run_program, hit, e1, e2]
  simp [show ¬ m < 0 by omega, e3, show ¬ n < 0 by omega, show ¬ m < n by omega, run_sizeOf' hit]
  by_cases hzero : m.toNat * it.size = 0
  · have hr : Array.range 0 = #[] := rfl
    simp [hzero, newRow, hr]
  · simp [hzero, hzv, newRow]
theorem goes_mksl {t e : TypeId} {x y : Operand} {it : TypeInfo} {zero : List AV} {fl : Bool} {n m : Int} {base : Nat} {S' : St} (ho : o.op = .makeSlice t x y) (ht : P.underlying t = some (.slice e)) (hz : zeroOf P e = some zero) (hit : P.info? e = some it) (hpos : 0 < zero.length)
    (hW : WRel w0 M R S g w) (hx : VRel S g (stab w0 R) (.int .i64 n) (a.eval x)) (hy : VRel S g (stab w0 R) (.int .i64 m) (a.eval y)) (h0 : 0 ≤ n) (h1 : n ≤ m) (h2 : m * it.bytes ≤ 140737488355328) (hm : m ≤ 140737488355328) (hfl : fl = true → (zero.all AV.scal) = true) (hzs : (zero.all fun v => v.scal || v.isNil) = true)
    (hn : S.new base { ver := 0, sz := zero.length, box := false, fl, elems := List.replicate n.toNat (zeroRow zero) } = some S') : Goes P w0 M R S g a w o S' (.sl 0 base 0 [] 0 n.toNat) := by
  unfold zeroOf at hz
  rw [hit] at hz
  split at hz
  · rename_i zs it' hz1 hit'
    cases hit'
    split at hz
    · rename_i z hzz
      split at hz
      · rename_i hok
        cases hz
        simp only [Bool.and_eq_true] at hok
        have hsize : zero.length = it.size := by simpa using hok.2
        obtain ⟨z1, z2⟩ := zeros_rel (S := S) (g := g) (cell := stab w0 R) hok.1
        have hzl : z.cells.size = zero.length := by rw [z1]; simp
        have hrun := run_makeSlice' (P := P) (w := w) ht hit hzz h0 h1 h2 hm
        rw [← hx.int_inv, ← hy.int_inv] at hrun
        have hex : (execOp a.eval o).run P w = _ := run_of_value (s := Instr.makeSlice t (a.eval x) (a.eval y)) (by unfold execOp; rw [ho]) hrun
        have hlen : (zeroRow zero).length = zero.length := by simp [zeroRow]
        obtain ⟨g', b1, b2, b3⟩ := newArr (elems := List.replicate n.toNat (zeroRow zero)) (sz := zero.length) (fl := fl) (s := base) (S' := S') (w' := w.alloc (.cells ((Array.range (m.toNat * it.size)).map (z.cells[· % z.cells.size]!)) e)) (ty := e) (fz := (0, 0)) hW hn rfl rfl rfl
          (fun B hB => Below.heap_alloc w _ B hB) (heap_alloc_new w _) (by simp) (free_zero _) (fun r hr => by rw [List.eq_of_mem_replicate hr, hlen]) hpos (by simp [hsize]; exact Nat.mul_le_mul_right _ (by omega)) (fun i c v hv => by
          unfold cellAt at hv
          rw [List.getElem?_replicate] at hv
          by_cases hi : i < n.toNat
          · simp only [hi, if_true] at hv
            have hc := (List.getElem?_eq_some_iff.1 hv).1
            rw [hlen] at hc
            have hg := rep_get z.cells m.toNat (by omega) i c (by omega) (by omega)
            have hg1 : m.toNat * it.size = m.toNat * z.cells.size := by rw [hzl, hsize]
            have hg2 : i * zero.length = i * z.cells.size := by rw [hzl]
            refine ⟨z.cells.getD c undef, by rw [hg1, hg2]; exact hg, ?_⟩
            obtain ⟨u, hu, hcase⟩ := zeroRow_get hv
            obtain ⟨cv, c1, c2⟩ := z2 c u hu
            rw [Array.getElem?_toList] at c1
            have e4 : z.cells.getD c undef = cv := by simp [c1]
            rw [e4]
            rcases hcase with ⟨rfl, hnn⟩ | ⟨f, q, rfl, rfl⟩
            · left
              refine ⟨?_, c2⟩
              have := List.all_eq_true.1 hzs _ (List.mem_of_getElem? hu)
              simp only [Bool.or_eq_true] at this
              rcases this with h | h
              · exact h
              · cases v <;> simp [AV.isNil] at h
                exact absurd rfl (hnn _ _)
            · right
              refine ⟨f, rfl, ?_, c2.nil_inv⟩
              cases fl with
              | false => rfl
              | true =>
                have := List.all_eq_true.1 (hfl rfl) _ (List.mem_of_getElem? hu)
                simp [AV.scal] at this
          · simp [hi] at hv)
        exact ⟨_, _, g', hex, b1, b2, b3 n.toNat m.toNat (by simp) (by omega) (by simp [hsize])⟩
      · cases hz
    · cases hz
  · cases hz
end
end Go.Ae
