/- More of the machine's operations, run: rows that are made; structs; comparison of structs. -/
import Derived.Test.YtgmfljabhcamlaaAeRun4
import Derived.Lib.ConvBytes
namespace Go.Ae
open Go.RowKit
set_option linter.unusedVariables false
set_option linter.unusedSimpArgs false
section
variable {P : Program} {w w0 : World} {M : Nat → Nat → Path → Option Nat} {R : Nat → Prop} {S : St} {g : G} {a : Act} {o : Oper}

theorem navE_flatOwn {elems : List (List AV)} (h : ∀ i c fl zs, cellAt elems i c = some (.own fl zs) → zs = []) : ∀ {p : Path} {ys : List (List AV)}, navE elems p = some ys → p = [] ∧ ys = elems ∨ p ≠ [] ∧ ys = []
  | [], ys, hp => by simp [navE] at hp; exact .inl ⟨rfl, hp.symm⟩
  | (i, c) :: q, ys, hp => by
    right
    refine ⟨by simp, ?_⟩
    cases hu : cellAt elems i c with
    | none => simp [navE, hu] at hp
    | some v =>
      cases v with
      | own fl zs =>
        have hz := h i c fl zs hu
        subst hz
        simp only [navE, hu] at hp
        cases q with
        | nil => simpa [navE] using hp.symm
        | cons x r => obtain ⟨i', c'⟩ := x; simp [navE, cellAt] at hp
      | _ => simp [navE, hu] at hp

/-- A new row. -/
theorem newArr {elems : List (List AV)} {s sz : Nat} {fl : Bool} {ty : TypeId} {arr : Array Value} {fz : Nat × Nat} {w' : World} {S' : St} (hW : WRel w0 M R S g w)
    (hn : S.new s { ver := 0, sz, box := false, fl, elems } = some S') (hos : w'.os = w.os) (htape : w'.tape = w.tape) (hout : w'.output = w.output) (hold : ∀ B, B < w.heap.size → w'.heap[B]? = w.heap[B]?) (hnew : w'.heap[w.heap.size]? = some (.cells arr ty fz)) (hsz' : w'.heap.size = w.heap.size + 1) (hfz : Free fz arr.size)
    (hl : ∀ r ∈ elems, r.length = sz) (hpos : 0 < sz) (hsz : elems.length * sz ≤ arr.size)
    (hv : ∀ i c v, cellAt elems i c = some v → ∃ cv, arr[i * sz + c]? = some cv ∧ ((v.scal = true ∧ VRel S g (stab w0 R) v cv) ∨ ∃ f, v = .own f [] ∧ fl = false ∧ cv = .slice none 0 0)) :
    ∃ g', WRel w0 M R S' g' w' ∧ Ext S g S' g' ∧ ∀ len cap, len ≤ elems.length → len ≤ cap → cap * sz ≤ arr.size → VRel S' g' (stab w0 R) (.sl 0 s 0 [] 0 len) (.slice (some ⟨w.heap.size, 0, none⟩) len cap) := by
  let t : Path → Option Nat := fun p => if p = [] then some w.heap.size else none
  let κ : Nat → Nat := fun B => if B = w.heap.size then arr.size else g.κ B
  have hκ : ∀ lv s p B, g.θ lv s p = some B → κ B = g.κ B := fun lv s p B hB => by
    have := hW.rng lv s p B hB
    simp only [κ]; rw [if_neg (by omega)]
  have hW' : WRel w0 M R S g w' := hW.world hos htape hout (by omega) hold
  have he := Ext.new (g := g) hn t hκ
  have hown : ∀ i c f zs, cellAt elems i c = some (.own f zs) → zs = [] := fun i c f zs h => by
    obtain ⟨cv, _, h1 | ⟨f', h1, _⟩⟩ := hv i c _ h
    · simp [AV.scal] at h1
    · cases h1; rfl
  refine ⟨g.add s t κ, ?_, he, fun len cap h1 h2 h3 => ?_⟩
  · refine hW'.extend hn t κ hκ (fun p B hB => ?_) (fun p q B h1 h2 => ?_) fun p ys hp => ?_
    · simp only [t] at hB
      split at hB
      · cases hB
        exact ⟨hW.size, by omega, fun lv s p h => by have := hW.rng lv s p _ h; omega⟩
      · cases hB
    · simp only [t] at h1 h2
      split at h1 <;> split at h2 <;> simp_all
    · rcases navE_flatOwn hown hp with ⟨rfl, rfl⟩ | ⟨hp0, rfl⟩
      · refine ⟨hl, fun _ => hpos, ?_⟩
        rw [add_θ, if_pos ⟨rfl, rfl⟩]
        simp only [t, if_true]
        refine ⟨arr, ty, fz, hnew, hfz, by simp [G.add, κ], hsz, fun i c v hv' => ?_⟩
        obtain ⟨cv, c1, c2⟩ := hv i c v hv'
        refine ⟨cv, c1, ?_⟩
        rcases c2 with ⟨c2, c3⟩ | ⟨f, rfl, c2, rfl⟩
        · have c3' := c3.mono he
          rw [← scal_mapR (f := upR 0) c2] at c3'
          cases v <;> first | exact ⟨c3', fun _ => c2⟩ | simp [AV.scal] at c2
        · refine ⟨rfl, c2, fun _ r hr => by simp at hr, none, 0, rfl, Nat.le_refl _, ?_⟩
          rw [add_θ, if_pos ⟨rfl, rfl⟩]
          simp [t]
      · refine ⟨fun r hr => by simp at hr, fun h => absurd rfl h, ?_⟩
        rw [add_θ, if_pos ⟨rfl, rfl⟩]
        simp [t, hp0]
  · have hb := new_blk hn 0 s
    rw [if_pos ⟨rfl, rfl⟩] at hb
    refine .sl _ _ _ _ _ _ _ ⟨_, blk_get hb, fun b' h => by cases h; exact Nat.le_refl _⟩ ⟨_, _, _, rfl⟩ fun b' ys hat => ?_
    obtain ⟨a1, a2, a3⟩ := at_blk hat
    rw [hb] at a1; cases a1
    simp [navE] at a3; subst a3
    refine ⟨_, cap, rfl, h2, by simpa using h1, ?_⟩
    rw [add_θ, if_pos ⟨rfl, rfl⟩]
    simp only [t, if_true]
    exact ⟨.inr (by simp), fun _ => by simpa [G.add, κ] using h3⟩

theorem free_zero (n : Nat) : Free (0, 0) n := fun o ho => by simp

theorem rowsOf_length (s : ByteArray) : (rowsOf s).length = s.size := by simp [rowsOf]
theorem cellAt_rowsOf {s : ByteArray} {i c : Nat} {v : AV} (h : cellAt (rowsOf s) i c = some v) : c = 0 ∧ ∃ b, s.data.toList[i]? = some b ∧ v = .int .u8 b.toNat := by
  unfold cellAt rowsOf at h
  rw [List.getElem?_map] at h
  cases hb : s.data.toList[i]? with
  | none => simp [hb] at h
  | some b =>
    simp only [hb, Option.map_some] at h
    cases c with
    | zero => simp at h; exact ⟨rfl, b, rfl, h.symm⟩
    | succ c => simp at h
theorem goes_s2b {src dst e : TypeId} {x : Operand} {s : ByteArray} {base : Nat} {S' : St} (ho : o.op = .convert src dst x) (h1 : P.underlying src = some .string) (h2 : P.underlying dst = some (.slice e)) (h3 : P.underlying e = some (.int .u8)) (hW : WRel w0 M R S g w)
    (hv : VRel S g (stab w0 R) (.str s) (a.eval x)) (hn : S.new base { ver := 0, sz := 1, box := false, fl := true, elems := rowsOf s } = some S') : Goes P w0 M R S g a w o S' (.sl 0 base 0 [] 0 s.size) := by
  have hcap : s.size ≤ grownCap w s.size 0 e := Nat.le_add_right _ _
  have harr : (Lib.bytesCells w e s).size = grownCap w s.size 0 e := by
    have : s.data.size = s.size := rfl
    simp [Lib.bytesCells, this]; omega
  obtain ⟨g', b1, b2, b3⟩ := newArr (w' := Lib.bytesWorld w e s) (arr := Lib.bytesCells w e s) (ty := e) (fz := ((Lib.bytesCells w e s).size, (Lib.bytesCells w e s).size + 1)) hW hn rfl rfl rfl (fun B hB => Lib.bytesWorld_at_old w e s B hB) (Lib.bytesWorld_at_new w e s) (Lib.bytesWorld_size w e s)
    (fun o ho => by simp; omega) (fun r hr => by simp [rowsOf] at hr; obtain ⟨b, _, rfl⟩ := hr; rfl) Nat.one_pos
    (by rw [rowsOf_length]; omega) (fun i c v h => by
      obtain ⟨rfl, b, hb, rfl⟩ := cellAt_rowsOf h
      refine ⟨.int .u8 b.toNat, ?_, .inl ⟨rfl, .int _ _⟩⟩
      have hi : i < s.data.size := by simpa using (List.getElem?_eq_some_iff.1 hb).1
      have hb' : s.data[i] = b := by
        rw [Array.getElem?_toList, Array.getElem?_eq_getElem hi] at hb
        exact Option.some.inj hb
      simp [Lib.bytesCells, Array.getElem?_append, hi, show i < s.size from hi, Array.getElem?_eq_getElem hi, hb'])
  exact ⟨_, _, g', run_of_value (s := convert src dst (a.eval x)) (by unfold execOp; simp only [ho]) (by rw [hv.str_inv]; exact Lib.run_convert_string_bytes w src dst e s h1 h2 h3), b1, b2, b3 s.size _ (by rw [rowsOf_length]; exact Nat.le_refl _) hcap (by omega)⟩

/-! ### b2s -/
theorem bytesOf_some : ∀ {rows : List (List AV)} {l : List UInt8}, bytesOf rows = some l → rows.length = l.length ∧ ∀ i c v, cellAt rows i c = some v → c = 0 ∧ ∃ n, v = .int .u8 n ∧ l[i]? = some (UInt8.ofNat n.toNat)
  | [], l, h => by simp [bytesOf] at h; subst h; exact ⟨rfl, fun i c v h => by simp [cellAt] at h⟩
  | [.int .u8 n] :: r, l, h => by
    simp only [bytesOf] at h
    split at h
    · rename_i l' hl
      cases h
      obtain ⟨a1, a2⟩ := bytesOf_some hl
      refine ⟨by simp [a1], fun i c v hv => ?_⟩
      cases i with
      | zero =>
        simp [cellAt] at hv
        cases c with
        | zero => simp at hv; exact ⟨rfl, n, hv.symm, by simp⟩
        | succ c => simp at hv
      | succ i => simpa using a2 i c v (by simpa [cellAt] using hv)
    · cases h
  | [] :: _, l, h => by simp [bytesOf] at h
  | (.int .u8 _ :: _ :: _) :: _, l, h => by simp [bytesOf] at h
  | (.bool _ :: _) :: _, l, h => by simp [bytesOf] at h
  | (.str _ :: _) :: _, l, h => by simp [bytesOf] at h
  | (.nil _ _ :: _) :: _, l, h => by simp [bytesOf] at h
  | (.rd _ _ :: _) :: _, l, h => by simp [bytesOf] at h
  | (.own _ _ :: _) :: _, l, h => by simp [bytesOf] at h
  | (.sl .. :: _) :: _, l, h => by simp [bytesOf] at h
  | (.ptr .. :: _) :: _, l, h => by simp [bytesOf] at h
  | (.rptr _ :: _) :: _, l, h => by simp [bytesOf] at h
  | (.agg _ :: _) :: _, l, h => by simp [bytesOf] at h
  | (.fn .. :: _) :: _, l, h => by simp [bytesOf] at h
  | (.tup _ :: _) :: _, l, h => by simp [bytesOf] at h
  | (.skp :: _) :: _, l, h => by simp [bytesOf] at h
  | (.undef :: _) :: _, l, h => by simp [bytesOf] at h
  | (.int .i8 _ :: _) :: _, l, h => by simp [bytesOf] at h
  | (.int .i16 _ :: _) :: _, l, h => by simp [bytesOf] at h
  | (.int .i32 _ :: _) :: _, l, h => by simp [bytesOf] at h
  | (.int .i64 _ :: _) :: _, l, h => by simp [bytesOf] at h
  | (.int .u16 _ :: _) :: _, l, h => by simp [bytesOf] at h
  | (.int .u32 _ :: _) :: _, l, h => by simp [bytesOf] at h
  | (.int .u64 _ :: _) :: _, l, h => by simp [bytesOf] at h
theorem bytesOf_rows : ∀ {rows : List (List AV)} {l : List UInt8}, bytesOf rows = some l → ∀ i, i < rows.length → ∃ n, rows[i]? = some [.int .u8 n] ∧ l[i]? = some (UInt8.ofNat n.toNat) := by
  intro rows l h i hi
  induction rows generalizing l i with
  | nil => simp at hi
  | cons row r ih =>
    have h' := h
    unfold bytesOf at h'
    split at h'
    · simp_all
    · rename_i n r' he
      cases he
      split at h'
      · rename_i l' hl
        cases h'
        cases i with
        | zero => exact ⟨n, by simp, by simp⟩
        | succ i => simpa using ih hl i (by simpa using hi)
      · cases h'
    · cases h'

theorem foldl_bytes (ns : List Int) : ∀ s : ByteArray, ns.foldl (fun r n => r.push (UInt8.ofNat n.toNat)) s = ⟨s.data ++ (ns.map fun n => UInt8.ofNat n.toNat).toArray⟩ := by
  induction ns with
  | nil => intro s; simp
  | cons n ns ih => intro s; rw [List.foldl_cons, ih]; simp [ByteArray.push]
theorem run_b2s {A : Option Addr} {cap : Nat} {l : List UInt8} {ns : Nat → Int} (hl : ∀ i, i < l.length → l[i]? = some (UInt8.ofNat (ns i).toNat)) (hc : ∀ i, i < l.length → ∃ ad, A = some ad ∧ w.cell? (ad.add i) = some (.int .u8 (ns i))) :
    (Conv.bytesToString (.slice A l.length cap)).run P w = .ok (.string ⟨l.toArray⟩) w := by
  cases A with
  | none =>
    cases l with
    | nil => rfl
    | cons x r => obtain ⟨ad, h, _⟩ := hc 0 (by simp); cases h
  | some ad =>
    have hcs : ∀ j, j < l.length → w.cell? (ad.add j) = some (.int .u8 (ns j)) := fun j hj => by obtain ⟨ad', h1, h2⟩ := hc j hj; cases h1; exact h2
    have hload := run_loadCells (P := P) w ad l.length (fun j => .int .u8 (ns j)) hcs
    have e0 : ((List.range l.length).map fun j => Value.int .u8 (ns j)).toArray = (((List.range l.length).map ns).map (Value.int .u8)).toArray := by rw [List.map_map]; rfl
    rw [e0] at hload
    have := run_bytesToString (P := P) w ad l.length cap _ hload
    rw [this, foldl_bytes]
    congr 2
    have e : ((List.range l.length).map ns).map (fun n => UInt8.ofNat n.toNat) = l := by
      apply List.ext_getElem?
      intro i
      by_cases hi : i < l.length
      · rw [List.getElem?_map, List.getElem?_map, List.getElem?_range hi, hl i hi]; rfl
      · rw [List.getElem?_eq_none (by simpa using hi), List.getElem?_eq_none (by omega)]
    rw [e]
    simp

theorem goes_b2s {src dst e : TypeId} {x : Operand} {A : Option Addr} {cap : Nat} {l : List UInt8} {ns : Nat → Int} (ho : o.op = .convert src dst x) (h1 : P.underlying src = some (.slice e)) (h2 : P.underlying dst = some .string) (h3 : P.underlying e = some (.int .u8)) (hW : WRel w0 M R S g w)
    (hx : a.eval x = .slice A l.length cap) (hl : ∀ i, i < l.length → l[i]? = some (UInt8.ofNat (ns i).toNat)) (hc : ∀ i, i < l.length → ∃ ad, A = some ad ∧ w.cell? (ad.add i) = some (.int .u8 (ns i))) : Goes P w0 M R S g a w o S (.str ⟨l.toArray⟩) := by
  refine goes_same (cv := .string ⟨l.toArray⟩) hW (run_of_value (s := convert src dst (a.eval x)) (by unfold execOp; simp only [ho]) ?_) (.str _)
  have := run_b2s (P := P) (w := w) (cap := cap) hl hc
  rw [hx]
  cases A <;> simp [convert, run_underlying h1, run_underlying h2, run_underlying h3, this]
theorem goes_b2s_rd {src dst e : TypeId} {x : Operand} {fl : Bool} {ys : List (List AV)} {l : List UInt8} (ho : o.op = .convert src dst x) (h1 : P.underlying src = some (.slice e)) (h2 : P.underlying dst = some .string) (h3 : P.underlying e = some (.int .u8)) (hR : RdW w0 M R) (hW : WRel w0 M R S g w)
    (hv : VRel S g (stab w0 R) (.rd fl ys) (a.eval x)) (hb : bytesOf ys = some l) : Goes P w0 M R S g a w o S (.str ⟨l.toArray⟩) := by
  have hlen := (bytesOf_some hb).1
  have hrows := bytesOf_rows hb
  generalize hx : a.eval x = cv at hv
  cases hv.rd_inv with
  | rd _ _ A cap sz f g1 g2 g3 g4 g5 =>
    let ns : Nat → Int := fun i => match f i 0 with | .int _ n => n | _ => 0
    have hget : ∀ i, i < l.length → ∃ n, ys[i]? = some [.int .u8 n] ∧ l[i]? = some (UInt8.ofNat n.toNat) ∧ f i 0 = .int .u8 n ∧ sz = 1 := fun i hi => by
      obtain ⟨n, c1, c2⟩ := hrows i (by omega)
      have := g5 i 0 (.int .u8 n) (by rw [cellAt_row c1]; rfl)
      refine ⟨n, c1, c2, ?_, ?_⟩
      · generalize f i 0 = u at this; cases this; rfl
      · rw [← g2 _ (List.mem_of_getElem? c1)]; rfl
    refine goes_b2s (A := A) (cap := cap) (ns := ns) ho h1 h2 h3 hW (by rw [hx, hlen]) (fun i hi => ?_) (fun i hi => ?_)
    · obtain ⟨n, c1, c2, c3, _⟩ := hget i hi
      simp only [ns, c3]; exact c2
    · obtain ⟨n, c1, c2, c3, c4⟩ := hget i hi
      obtain ⟨ad, d1, d2⟩ := g4 i 0 (.int .u8 n) (by rw [cellAt_row c1]; rfl)
      refine ⟨ad, d1, ?_⟩
      simp only [ns, c3]
      rw [c4] at d2
      have := stab_cell hR hW d2
      simpa [c3] using this
theorem goes_b2s_own {src dst e : TypeId} {x : Operand} {lv s ver : Nat} {p : Path} {off len : Nat} {b : Blk} {ys : List (List AV)} {l : List UInt8} (ho : o.op = .convert src dst x) (h1 : P.underlying src = some (.slice e)) (h2 : P.underlying dst = some .string) (h3 : P.underlying e = some (.int .u8)) (hW : WRel w0 M R S g w)
    (hv : VRel S g (stab w0 R) (.sl lv s ver p off len) (a.eval x)) (hat : S.at lv s ver p = some (b, ys)) (hlen : off + len ≤ ys.length) (hbox : b.box = false) (hb : bytesOf ((ys.drop off).take len) = some l) : Goes P w0 M R S g a w o S (.str ⟨l.toArray⟩) := by
  obtain ⟨hk, hs⟩ := hv.sl_inv
  obtain ⟨A, cap, he, c1, c2, c3⟩ := hs b ys hat
  obtain ⟨hb0, hver, hn⟩ := at_blk hat
  obtain ⟨d1, d2, d3⟩ := hW.cont lv s b p ys hb0 hn
  have hll := (bytesOf_some hb).1
  have hrows := bytesOf_rows hb
  have hl' : l.length = len := by rw [← hll]; simp; omega
  let ns : Nat → Int := fun i => match ys[off + i]? with | some [.int _ n] => n | _ => 0
  have hget : ∀ i, i < l.length → ∃ n, ys[off + i]? = some [.int .u8 n] ∧ l[i]? = some (UInt8.ofNat n.toNat) := fun i hi => by
    obtain ⟨n, e1, e2⟩ := hrows i (by omega)
    rw [List.getElem?_take, List.getElem?_drop] at e1
    rw [if_pos (by omega)] at e1
    exact ⟨n, e1, e2⟩
  refine goes_b2s (A := A) (cap := cap) (ns := ns) ho h1 h2 h3 hW (by rw [he, hl']) (fun i hi => ?_) (fun i hi => ?_)
  · obtain ⟨n, e1, e2⟩ := hget i hi
    simp only [ns, e1]; exact e2
  · obtain ⟨n, e1, e2⟩ := hget i hi
    have hcs : csz b.sz p ys = 1 := by rw [← csz_row d1 e1]; rfl
    cases hB : g.θ lv s p with
    | none => rw [hB] at d3; rw [d3] at e1; simp at e1
    | some B =>
      rw [hB] at d3 c3
      obtain ⟨arr, ty, fz, f1, f2, f3, f4, f5⟩ := d3
      have hA := c3.1.resolve_left (by omega)
      refine ⟨_, hA, ?_⟩
      obtain ⟨cv, k1, k2⟩ := f5 (off + i) 0 (.int .u8 n) (by rw [cellAt_row e1]; rfl)
      rw [Addr.add_lit, blk_cell' f1]
      rw [hcs] at k1 ⊢
      simp only [Nat.mul_one, Nat.add_zero] at k1 ⊢
      rw [k1, VRel.int_inv (k := .u8) (n := n) k2.1]
      simp only [ns, e1]
theorem goes_b2s_nil {src dst e : TypeId} {x : Operand} {fl : Bool} {z : Nat} (ho : o.op = .convert src dst x) (h1 : P.underlying src = some (.slice e)) (h2 : P.underlying dst = some .string) (h3 : P.underlying e = some (.int .u8)) (hW : WRel w0 M R S g w)
    (hv : VRel S g (stab w0 R) (.nil fl z) (a.eval x)) : Goes P w0 M R S g a w o S (.str ByteArray.empty) := by
  refine goes_same (cv := .string ByteArray.empty) hW (run_of_value (s := convert src dst (a.eval x)) (by unfold execOp; simp only [ho]) ?_) (.str _)
  rw [hv.nil_inv]
  simp [convert, run_underlying h1, run_underlying h2, run_underlying h3, Conv.bytesToString]
end
end Go.Ae
