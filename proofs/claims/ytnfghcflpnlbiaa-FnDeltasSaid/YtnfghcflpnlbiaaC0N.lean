/- Bytes of a striped object, read by a builder: what the program's function answers, as a plain function. -/
import Derived.Test.YtnfghcflpnlbiaaAeL6
namespace Go.Ae.C0
open Go.RowKit
set_option linter.unusedVariables false
set_option linter.unusedSimpArgs false
def colN (a u p : Nat) : Nat := p % (a * u) / u
def offN (a u p : Nat) : Nat := p / (a * u) * u + p % u
def byteAt (cols : List ByteArray) (a u p : Nat) : Option UInt8 := match cols[colN a u p]? with
  | some s => s.data.toList[offN a u p]?
  | none => none
def bytesAt (cols : List ByteArray) (a u at_ : Nat) : Nat → Option (List UInt8)
  | 0 => some []
  | m + 1 => match bytesAt cols a u at_ m, byteAt cols a u (at_ + m) with
    | some l, some x => some (l ++ [x])
    | _, _ => none
theorem bytesAt_ok {cols : List ByteArray} {a u at_ : Nat} : ∀ {m : Nat} {l : List UInt8}, bytesAt cols a u at_ m = some l → l.length = m ∧ ∀ i, i < m → ∃ s x, cols[colN a u (at_ + i)]? = some s ∧ s.data.toList[offN a u (at_ + i)]? = some x ∧ l[i]? = some x
  | 0, l, h => by simp [bytesAt] at h; subst h; exact ⟨rfl, fun i hi => absurd hi (by omega)⟩
  | m + 1, l, h => by
    simp only [bytesAt] at h
    split at h
    · rename_i l' x h1 h2
      cases h
      obtain ⟨e, f⟩ := bytesAt_ok h1
      refine ⟨by simp [e], fun i hi => ?_⟩
      by_cases hm : i < m
      · obtain ⟨s, y, g1, g2, g3⟩ := f i hm
        exact ⟨s, y, g1, g2, by rw [List.getElem?_append_left (by omega)]; exact g3⟩
      · have : i = m := by omega
        subst this
        unfold byteAt at h2
        split at h2
        · rename_i s hs
          exact ⟨s, x, hs, h2, by rw [List.getElem?_append_right (by omega)]; simp [e]⟩
        · cases h2
    · cases h
def natBody : List AV → Option (AV × List Blk)
  | [.agg [.int .i64 a, .int .i64 b, .int .i64 u, .int .i64 n, _], .rd _ xs, .int .i64 at_, .int .i64 m] => match strsOf xs with
    | some cols => if (1 ≤ a ∧ a ≤ 4) ∧ (1 ≤ u ∧ u ≤ 8) ∧ 0 ≤ b ∧ 0 ≤ n ∧ 0 ≤ at_ ∧ 0 ≤ m ∧ at_ + m ≤ 1000 then match bytesAt cols a.toNat u.toNat at_.toNat m.toNat with
        | some l => some (.str ⟨l.toArray⟩, [])
        | none => none
      else none
    | none => none
  | _ => none
section
variable {P : Program} {w w0 : World} {M : Nat → Nat → Path → Option Nat} {R : Nat → Prop} {S : St} {g : G}
/-- A new row. -/
theorem newArr2 {elems : List (List AV)} {s sz : Nat} {fl : Bool} {ty : TypeId} {arr : Array Value} {fz : Nat × Nat} {w' : World} {S' : St} (hW : WRel w0 M R S g w)
    (hn : S.new s { ver := 0, sz, box := false, fl, elems } = some S') (hos : w'.os = w.os) (htape : w'.tape = w.tape) (hout : w'.output = w.output) (hold : ∀ B, B < w.heap.size → w'.heap[B]? = w.heap[B]?) (hnew : w'.heap[w.heap.size]? = some (.cells arr ty fz)) (hsz' : w.heap.size < w'.heap.size) (hfz : Free fz arr.size)
    (hl : ∀ r ∈ elems, r.length = sz) (hpos : 0 < sz) (hsz : elems.length * sz ≤ arr.size)
    (hv : ∀ i c v, cellAt elems i c = some v → ∃ cv, arr[i * sz + c]? = some cv ∧ ((v.scal = true ∧ VRel S g (stab w0 R) v cv) ∨ ∃ f, v = .own f [] ∧ fl = false ∧ cv = .slice none 0 0)) :
    ∃ g', WRel w0 M R S' g' w' ∧ Ext S g S' g' ∧ ∀ len cap, len ≤ elems.length → len ≤ cap → cap * sz ≤ arr.size → VRel S' g' (stab w0 R) (.sl 0 s 0 [] 0 len) (.slice (some ⟨w.heap.size, 0, none⟩) len cap) := by
  let t : Path → Option Nat := fun p => if p = [] then some w.heap.size else none
  let κ : Nat → Nat := fun B => if B = w.heap.size then arr.size else g.κ B
  have hκ : ∀ lv s p B, g.θ lv s p = some B → κ B = g.κ B := fun lv s p B hB => by
    have := hW.rng lv s p B hB
    simp only [κ]; rw [if_neg (by omega)]
  have hW' : WRel w0 M R S g w' := hW.world hos htape hout (by omega) hold
  have he := Ext.new (g := g) hn t hκ
  have hown : ∀ i c f zs, cellAt elems i c = some (.own f zs) → zs = [] := fun i c f zs h => by
    obtain ⟨cv, _, h1 | ⟨f', h1, _⟩⟩ := hv i c _ h
    · simp [AV.scal] at h1
    · cases h1; rfl
  refine ⟨g.add s t κ, ?_, he, fun len cap h1 h2 h3 => ?_⟩
  · refine hW'.extend hn t κ hκ (fun p B hB => ?_) (fun p q B h1 h2 => ?_) fun p ys hp => ?_
    · simp only [t] at hB
      split at hB
      · cases hB
        exact ⟨hW.size, by omega, fun lv s p h => by have := hW.rng lv s p _ h; omega⟩
      · cases hB
    · simp only [t] at h1 h2
      split at h1 <;> split at h2 <;> simp_all
    · rcases navE_flatOwn hown hp with ⟨rfl, rfl⟩ | ⟨hp0, rfl⟩
      · refine ⟨hl, fun _ => hpos, ?_⟩
        rw [add_θ, if_pos ⟨rfl, rfl⟩]
        simp only [t, if_true]
        refine ⟨arr, ty, fz, hnew, hfz, by simp [G.add, κ], hsz, fun i c v hv' => ?_⟩
        obtain ⟨cv, c1, c2⟩ := hv i c v hv'
        refine ⟨cv, c1, ?_⟩
        rcases c2 with ⟨c2, c3⟩ | ⟨f, rfl, c2, rfl⟩
        · have c3' := c3.mono he
          rw [← scal_mapR (f := upR 0) c2] at c3'
          cases v <;> first | exact ⟨c3', fun _ => c2⟩ | simp [AV.scal] at c2
        · refine ⟨rfl, c2, fun _ r hr => by simp at hr, none, 0, rfl, Nat.le_refl _, ?_⟩
          rw [add_θ, if_pos ⟨rfl, rfl⟩]
          simp [t]
      · refine ⟨fun r hr => by simp at hr, fun h => absurd rfl h, ?_⟩
        rw [add_θ, if_pos ⟨rfl, rfl⟩]
        simp [t, hp0]
  · have hb := new_blk hn 0 s
    rw [if_pos ⟨rfl, rfl⟩] at hb
    refine .sl _ _ _ _ _ _ _ ⟨_, blk_get hb, fun b' h => by cases h; exact Nat.le_refl _⟩ ⟨_, _, _, rfl⟩ fun b' ys hat => ?_
    obtain ⟨a1, a2, a3⟩ := at_blk hat
    rw [hb] at a1; cases a1
    simp [navE] at a3; subst a3
    refine ⟨_, cap, rfl, h2, by simpa using h1, fun _ => ?_⟩
    rw [add_θ, if_pos ⟨rfl, rfl⟩]
    simp only [t, if_true]
    exact ⟨.inr (by simp), fun _ => by simpa [G.add, κ] using h3⟩

end
section
variable {P : Program} {f : Nat} {args : List AV} {E : List Heap} {v : AV} {bs : List Blk}
theorem vrel_agg5 {S : St} {g : G} {cell : Addr → Option Value} {a b c d e : AV} {x : Value} (h : VRel S g cell (.agg [a, b, c, d, e]) x) : ∃ v0 v1 v2 v3 v4, x = .agg #[v0, v1, v2, v3, v4] ∧ VRel S g cell a v0 ∧ VRel S g cell b v1 ∧ VRel S g cell c v2 ∧ VRel S g cell d v3 := by
  cases h with
  | agg _ arr hl hr =>
    have hs : arr.size = 5 := hl.symm
    refine ⟨arr.getD 0 Go.undef, arr.getD 1 Go.undef, arr.getD 2 Go.undef, arr.getD 3 Go.undef, arr.getD 4 Go.undef, ?_, hr 0 _ rfl, hr 1 _ rfl, hr 2 _ rfl, hr 3 _ rfl⟩
    congr 1
    apply Array.ext
    · simp [hs]
    · intro i hi hj
      rcases i with _ | _ | _ | _ | _ | i
      all_goals first | (simp [hs]; done) | omega
theorem four_args {S : St} {g : G} {cell : Addr → Option Value} {a b c d : AV} {arr : Array Value} (h : VRels S g cell [a, b, c, d] arr) : ∃ x y z t, arr = #[x, y, z, t] ∧ VRel S g cell a x ∧ VRel S g cell b y ∧ VRel S g cell c z ∧ VRel S g cell d t := by
  obtain ⟨h1, h2⟩ := h
  have hs : arr.size = 4 := h1.symm
  refine ⟨arr.getD 0 undef, arr.getD 1 undef, arr.getD 2 undef, arr.getD 3 undef, ?_, h2 0 a rfl, h2 1 b rfl, h2 2 c rfl, h2 3 d rfl⟩
  apply Array.ext
  · simp [hs]
  · intro i hi hj
    rcases i with _ | _ | _ | _ | i
    all_goals first | (simp [hs]; done) | omega
theorem natBody_ok (h0 : ∀ (a b u n at_ : Nat) (sv : Value) (A : Option Addr) (k c : Nat) (w : World), at_ ≤ 1000 → Calls P f #[.agg #[.int .i64 a, .int .i64 b, .int .i64 u, .int .i64 n, sv], .slice A k c, .int .i64 at_, .int .i64 0] w fun e w' => e = .returned (.string ⟨#[]⟩) ∧ Below w.heap.size w w')
    (hc : ∀ (a b u n at_ m : Nat) (sv : Value) (bk o c : Nat) (cols : List ByteArray) (l : List UInt8) (w : World), 1 ≤ a ∧ a ≤ 4 → 1 ≤ u ∧ u ≤ 8 → at_ + m ≤ 1000 → l.length = m →
      (∀ (j : Nat) x, cols[j]? = some x → w.cell? ⟨bk, o + j, none⟩ = some (.string x)) → bk < w.heap.size → cols.length ≤ c →
      (∀ i, i < m → ∃ s x, cols[colN a u (at_ + i)]? = some s ∧ s.data.toList[offN a u (at_ + i)]? = some x ∧ l[i]? = some x) →
      Calls P f #[.agg #[.int .i64 a, .int .i64 b, .int .i64 u, .int .i64 n, sv], .slice (some ⟨bk, o, none⟩) cols.length c, .int .i64 at_, .int .i64 m] w fun e w' => e = .returned (.string ⟨l.toArray⟩) ∧ Below w.heap.size w w')
    (h : natBody args = some (v, bs)) : CallOk P f args E ⟨v, bs, E⟩ := by
  unfold natBody at h
  split at h
  · rename_i a b u n sx fl xs at_ m
    split at h
    · rename_i cols hcols
      split at h
      · rename_i hb
        split at h
        · rename_i l hl
          cases h
          obtain ⟨ha, hu, hb0, hn0, hat0, hm0, ham⟩ := hb
          obtain ⟨a, rfl⟩ := Int.eq_ofNat_of_zero_le (show 0 ≤ a by omega)
          obtain ⟨u, rfl⟩ := Int.eq_ofNat_of_zero_le (show 0 ≤ u by omega)
          obtain ⟨b, rfl⟩ := Int.eq_ofNat_of_zero_le hb0
          obtain ⟨n, rfl⟩ := Int.eq_ofNat_of_zero_le hn0
          obtain ⟨at_, rfl⟩ := Int.eq_ofNat_of_zero_le hat0
          obtain ⟨m, rfl⟩ := Int.eq_ofNat_of_zero_le hm0
          simp only [Int.toNat_natCast] at hl
          obtain ⟨l1, l2⟩ := bytesAt_ok hl
          refine callOk_str fun w R g cargs hR hv => ?_
          obtain ⟨x, y, z, t, rfl, hx, hy, hz, ht⟩ := four_args hv
          obtain ⟨v0, v1, v2, v3, v4, rfl, e0, e1, e2, e3⟩ := vrel_agg5 hx
          rw [e0.int_inv, e1.int_inv, e2.int_inv, e3.int_inv, hz.int_inv, ht.int_inv]
          have hxs := strsOf_at hcols
          have hlen : xs.length = cols.length := by rw [hxs]; simp
          have hr := hy.rd_inv
          cases hr with
          | rd _ _ A cap sz cv g1 g2 g3 g4 g5 =>
            by_cases hm : m = 0
            · subst hm
              have : l = [] := List.length_eq_zero_iff.1 l1
              subst this
              exact h0 a b u n at_ v4 A xs.length cap w (by omega)
            · obtain ⟨s1, x0, f0, _⟩ := l2 0 (by omega)
              obtain ⟨s0, f1⟩ : ∃ s0, cols[0]? = some s0 := ⟨cols[0]'(by have := (List.getElem?_eq_some_iff.1 f0).1; omega), List.getElem?_eq_getElem _⟩
              have hat : ∀ (j : Nat) t, cols[j]? = some t → cellAt xs j 0 = some (.str t) := fun j t ht => by
                rw [hxs]; unfold cellAt; rw [List.getElem?_map, ht]; rfl
              have hsz : sz = 1 := by
                have := g2 [.str s0] (by rw [hxs]; exact List.mem_map.2 ⟨s0, List.mem_of_getElem? f1, rfl⟩)
                simpa using this.symm
              subst hsz
              obtain ⟨ad, rfl, ha'⟩ := g4 _ 0 _ (hat _ s0 f1)
              have hcell : ∀ (j : Nat) t, cols[j]? = some t → w.cell? (ad.add j) = some (.string t) := fun j t ht => by
                obtain ⟨a', e1, e2⟩ := g4 j 0 _ (hat j t ht)
                cases e1
                have := g5 j 0 _ (hat j t ht)
                have e3 : cv j 0 = .string t := rd_str this
                rw [e3] at e2
                have := stab_cell? e2
                simpa using this
              have hsp : ad.spot = none := by
                have := cell_spot (hcell _ s0 f1)
                simpa [Addr.add] using this
              obtain ⟨bk, o, sp⟩ := ad
              simp only at hsp
              subst hsp
              rw [hlen]
              refine hc a b u n at_ m v4 bk o cap cols l w (by omega) (by omega) (by omega) l1 (fun j t ht => ?_) ?_ (by omega) l2
              · have := hcell j t ht
                rwa [Addr.add_lit] at this
              · have := hcell _ s0 f1
                rw [Addr.add_lit] at this
                exact World.block_lt_of_cell? w _ this
        · cases h
      · cases h
    · cases h
  · cases h
def natRepI : List AV → Option (AV × List Blk)
  | [.rd _ [[.int .i64 x]], .int .i64 k] => if x = -1 ∧ 1 ≤ k ∧ k ≤ 4 then some (.sl 0 0 0 [] 0 k.toNat, [⟨0, 1, false, true, List.replicate k.toNat [.int .i64 (-1)]⟩]) else none
  | _ => none
theorem natRepI_ok {ty : TypeId} (hc : ∀ (k bk o c : Nat) (w : World), 1 ≤ k ∧ k ≤ 4 → w.cell? ⟨bk, o, none⟩ = some (.int .i64 (-1)) → bk < w.heap.size →
      Calls P f #[.slice (some ⟨bk, o, none⟩) 1 c, .int .i64 (k : Int)] w fun e w' => e = .returned (.slice (some ⟨w.heap.size, 0, none⟩) k k) ∧ Below w.heap.size w w' ∧ w'.heap[w.heap.size]? = some (.cells (List.replicate k (Value.int .i64 (-1))).toArray ty (0, 0)))
    (h : natRepI args = some (v, bs)) : CallOk P f args E ⟨v, bs, E⟩ := by
  unfold natRepI at h
  split at h
  · rename_i fl x k
    split at h
    · rename_i hb
      cases h
      obtain ⟨rfl, h1, h2⟩ := hb
      obtain ⟨k, rfl⟩ := Int.eq_ofNat_of_zero_le (show 0 ≤ k by omega)
      simp only [Int.toNat_natCast]
      intro w R g cargs hR hθ hW hv
      obtain ⟨x, y, rfl, hx, hy⟩ := two_args hv
      rw [hy.int_inv]
      have hr := hx.rd_inv
      cases hr with
      | rd _ _ A cap sz cv g1 g2 g3 g4 g5 =>
        have hsz : sz = 1 := by
          have := g2 [.int .i64 (-1)] (by simp)
          simpa using this.symm
        subst hsz
        obtain ⟨ad, rfl, ha'⟩ := g4 0 0 _ rfl
        have e3 : cv 0 0 = .int .i64 (-1) := by
          have := g5 0 0 _ rfl
          generalize cv 0 0 = q at this
          cases this; rfl
        rw [e3] at ha'
        have hcell := stab_cell? ha'
        have hsp := cell_spot hcell
        obtain ⟨bk, o, sp⟩ := ad
        have hsp' : sp = none := by simpa [Addr.add] using hsp
        subst hsp'
        rw [Addr.add_lit] at hcell
        have hcell0 : w.cell? ⟨bk, o, none⟩ = some (.int .i64 (-1)) := by simpa using hcell
        refine (hc k bk o cap w (by omega) hcell0 (World.block_lt_of_cell? w _ hcell0)).mono ?_
        rintro e w' ⟨rfl, hb, hnew⟩
        have hn : St.new ⟨[.rd fl [[.int .i64 (-1)]], .int .i64 k], [], E⟩ 0 { ver := 0, sz := 1, box := false, fl := true, elems := List.replicate k [.int .i64 (-1)] } = some ⟨[.rd fl [[.int .i64 (-1)]], .int .i64 k], [(0, some ⟨0, 1, false, true, List.replicate k [.int .i64 (-1)]⟩)], E⟩ := rfl
        have hlt : w.heap.size < w'.heap.size := (Array.getElem?_eq_some_iff.1 hnew).1
        obtain ⟨g', b1, b2, b3⟩ := newArr2 hW hn hb.os hb.tape hb.output (fun B hB => hb.block B hB) hnew hlt (free_zero _) (fun r hr => by rw [List.eq_of_mem_replicate hr]; rfl) (by omega) (by simp) (fun i c v hv => by
          unfold cellAt at hv
          rw [List.getElem?_replicate] at hv
          by_cases hi : i < k
          · rw [if_pos hi] at hv
            match c, hv with
            | 0, hv =>
              cases hv
              exact ⟨_, by simp [hi], .inl ⟨rfl, .int _ _⟩⟩
            | c + 1, hv => simp at hv
          · rw [if_neg hi] at hv; cases hv)
        have hsame : ∀ lv, (resSt ⟨.sl 0 0 0 [] 0 k, [⟨0, 1, false, true, List.replicate k [.int .i64 (-1)]⟩], E⟩).heap lv = (⟨[.rd fl [[.int .i64 (-1)]], .int .i64 k], [(0, some ⟨0, 1, false, true, List.replicate k [.int .i64 (-1)]⟩)], E⟩ : St).heap lv := fun lv => by cases lv <;> rfl
        refine ⟨_, g', rfl, b1.sameHeap hsame, b2.trans (Ext.sameHeap hsame), (b3 k k (by simp) (Nat.le_refl _) (by simp)).mono (Ext.sameHeap hsame)⟩
    · cases h
  · cases h
end
end Go.Ae.C0
