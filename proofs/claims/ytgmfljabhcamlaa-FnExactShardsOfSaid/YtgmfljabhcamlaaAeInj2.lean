/- A call's answer, taken in: its value, what it made. -/
import Derived.Test.YtgmfljabhcamlaaAeInj
namespace Go.Ae
open Go.RowKit
set_option linter.unusedVariables false
set_option linter.unusedSimpArgs false
section
variable {P : Program} {w w0 : World} {M : Nat → Nat → Path → Option Nat} {R : Nat → Prop} {S : St} {g : G} {a : Act} {o : Oper}

def nbOf (base : Nat) (l : List Blk) (t : Nat) : Option Blk := if base ≤ t then l[t - base]? else none

theorem addNews_numbered : ∀ {l : List Blk} {base : Nat} {S S' : St}, addNews S (numbered base l) = some S' → News S S' (nbOf base l)
  | [], base, S, S', h => by
    simp [numbered, addNews] at h; subst h
    refine ⟨fun lv t => ?_, fun t b h => by simp [nbOf] at h⟩
    by_cases hl : lv = 0
    · subst hl; simp [nbOf]; rfl
    · simp [hl]
  | b :: r, base, S, S', h => by
    obtain ⟨S1, h1, h2⟩ := addNews_cons (show addNews S ((base, b) :: numbered (base + 1) r) = some S' from h)
    have ih := addNews_numbered h2
    have hnb : ∀ t, nbOf base (b :: r) t = if t = base then some b else nbOf (base + 1) r t := by
      intro t
      unfold nbOf
      by_cases ht : t = base
      · subst ht; simp
      · by_cases hle : base ≤ t
        · have e : t - base = (t - (base + 1)) + 1 := by omega
          rw [if_pos hle, if_neg ht, if_pos (by omega), e]; simp
        · rw [if_neg hle, if_neg ht, if_neg (by omega)]
    refine ⟨fun lv t => ?_, fun t b' h => ?_⟩
    · rw [ih.get, hnb]
      by_cases hl : lv = 0
      · subst hl
        simp only [if_true]
        by_cases ht : t = base
        · subst ht
          have : nbOf (t + 1) r t = none := by unfold nbOf; rw [if_neg (by omega)]
          rw [this]
          have := new_heap h1 0 t
          simp only [if_true] at this ⊢
          simpa [St.heap] using this
        · simp only [ht, if_false]
          cases nbOf (base + 1) r t with
          | some b' => rfl
          | none =>
            have := new_heap h1 0 t
            simpa [St.heap, ht] using this
      · simp only [hl, if_false]
        have := new_heap h1 lv t
        simpa [hl] using this
    · rw [hnb] at h
      by_cases ht : t = base
      · subst ht; exact (new_get h1).1
      · rw [if_neg ht] at h
        have := ih.free t b' h
        have h3 := new_heap h1 0 t
        rw [if_neg (by simp [ht])] at h3
        rw [show S1.heap 0 = S1.loc from rfl, this] at h3
        exact h3.symm

def resSt (r : Res) : St := { tmps := [], loc := (numbered 0 r.blks).map fun x => (x.1, some x.2), ext := r.ext }
theorem numbered_get : ∀ (l : List Blk) (base t : Nat), Heap.get ((numbered base l).map fun x => (x.1, some x.2)) t = (nbOf base l t).map some
  | [], base, t => by simp [numbered, Heap.get, nbOf]
  | b :: r, base, t => by
    simp only [numbered, List.map_cons, Heap.get]
    by_cases ht : t = base
    · subst ht; simp [nbOf]
    · rw [if_neg ht, numbered_get r (base + 1) t]
      unfold nbOf
      by_cases hle : base ≤ t
      · have e : t - base = (t - (base + 1)) + 1 := by omega
        rw [if_pos hle, if_pos (by omega), e]; simp
      · rw [if_neg hle, if_neg (by omega)]
theorem res_get (r : Res) (t : Nat) : ((resSt r).heap 0).get t = (r.blks[t]?).map some := by
  show Heap.get _ _ = _
  rw [show (resSt r).heap 0 = (numbered 0 r.blks).map fun x => (x.1, some x.2) from rfl, numbered_get]
  simp [nbOf]
theorem res_blk (r : Res) (t : Nat) : (resSt r).blk 0 t = r.blks[t]? := by
  unfold St.blk
  rw [res_get]
  cases r.blks[t]? <;> rfl

theorem mapR_arr {f : Nat → Nat → Nat → Path → Option (Nat × Nat × Nat)} {b : Blk} (h : b.box = false) : b.mapR f = b := by unfold Blk.mapR; simp [h]
theorem mapR_ver {f : Nat → Nat → Nat → Path → Option (Nat × Nat × Nat)} (b : Blk) : (b.mapR f).ver = b.ver ∧ (b.mapR f).sz = b.sz ∧ (b.mapR f).box = b.box ∧ (b.mapR f).fl = b.fl := by unfold Blk.mapR; split <;> simp
theorem mapR_cell {f : Nat → Nat → Nat → Path → Option (Nat × Nat × Nat)} {b : Blk} (h : b.box = true) (i c : Nat) : cellAt (b.mapR f).elems i c = (cellAt b.elems i c).map (AV.mapR f) := by
  unfold Blk.mapR cellAt
  simp only [h, if_true, List.getElem?_map]
  cases b.elems[i]? with
  | none => rfl
  | some r => simp [mapRs_map]
theorem mapR_len {f : Nat → Nat → Nat → Path → Option (Nat × Nat × Nat)} (b : Blk) : (b.mapR f).elems.length = b.elems.length := by unfold Blk.mapR; split <;> simp

/-- A variable's block leads to no row of its own inside. -/
theorem box_own {cell : Addr → Option Value} {lv s : Nat} {b : Blk} (hc : Cont cell S g w lv s b [] b.elems) (hbox : b.box = true) {i c : Nat} {fl : Bool} {zs : List (List AV)} : cellAt b.elems i c ≠ some (.own fl zs) := by
  intro h
  obtain ⟨d1, d2, d3⟩ := hc
  cases hB : g.θ lv s [] with
  | none => rw [hB] at d3; rw [d3] at h; simp [cellAt] at h
  | some B =>
    rw [hB] at d3
    obtain ⟨arr, ty, fz, a1, a2, a3, a4, a5⟩ := d3
    obtain ⟨cv, c1, c2⟩ := a5 _ _ _ h
    have := c2.1; rw [hbox] at this; cases this
theorem box_nav {elems : List (List AV)} (h : ∀ i c fl zs, cellAt elems i c ≠ some (.own fl zs)) {p : Path} {ys : List (List AV)} (hn : navE elems p = some ys) : p = [] ∧ ys = elems := by
  cases p with
  | nil => simp [navE] at hn; exact ⟨rfl, hn.symm⟩
  | cons x r =>
    obtain ⟨i, c⟩ := x
    simp only [navE] at hn
    cases hu : cellAt elems i c with
    | none => simp [hu] at hn
    | some v =>
      cases v with
      | own fl zs => exact absurd hu (h i c fl zs)
      | _ => simp [hu] at hn
theorem mapR_own {f : Nat → Nat → Nat → Path → Option (Nat × Nat × Nat)} {b : Blk} (hbox : b.box = true) (h : ∀ i c fl zs, cellAt b.elems i c ≠ some (.own fl zs)) : ∀ i c fl zs, cellAt (b.mapR f).elems i c ≠ some (.own fl zs) := by
  intro i c fl zs he
  rw [mapR_cell hbox] at he
  obtain ⟨u, h1, h2⟩ := Option.map_eq_some_iff.1 he
  cases u <;> simp only [AV.mapR] at h2 <;> first | (cases h2; done) | (cases h2; exact h _ _ _ _ h1) | (split at h2 <;> cases h2)

/-- What a block's content says, under another name. -/
theorem Cont.ren {f : Nat → Nat → Nat → Path → Option (Nat × Nat × Nat)} {S1 S2 : St} {g1 g2 : G} {cell cell' : Addr → Option Value} {s s' : Nat} {b : Blk} (hr : RenOk f S1 g1 S2 g2) (hcell : ∀ v cv, VRel S1 g1 cell v cv → (∃ i c, b.box = true ∧ cellAt b.elems i c = some v) ∨ v.scal = true → VRel S1 g1 cell' v cv)
    (hall : ∀ p ys, navE b.elems p = some ys → Cont cell S1 g1 w 0 s b p ys) (hθ : ∀ q, g2.θ 0 s' q = g1.θ 0 s q) (hκ : ∀ q B, g1.θ 0 s q = some B → g2.κ B = g1.κ B) {b' : Blk} (hb' : b' = { b.mapR f with ver := b'.ver }) {p : Path} {ys : List (List AV)} (hn : navE b'.elems p = some ys) : Cont cell' S2 g2 w 0 s' b' p ys := by
  obtain ⟨e1, e2, e3, e4⟩ := mapR_ver (f := f) b
  have q1 : b'.sz = b.sz := by rw [hb']; exact e2
  have q2 : b'.box = b.box := by rw [hb']; exact e3
  have q3 : b'.fl = b.fl := by rw [hb']; exact e4
  have q4 : b'.elems = (b.mapR f).elems := by rw [hb']
  by_cases hbox : b.box = true
  · have hown := fun i c fl zs => box_own (hall [] b.elems rfl) hbox (i := i) (c := c) (fl := fl) (zs := zs)
    rw [q4] at hn
    obtain ⟨rfl, rfl⟩ := box_nav (mapR_own (f := f) hbox hown) hn
    obtain ⟨d1, d2, d3⟩ := hall [] b.elems rfl
    have hcs : csz b'.sz [] (b.mapR f).elems = csz b.sz [] b.elems := q1
    refine ⟨fun r hr' => ?_, fun hne => ?_, ?_⟩
    · rw [hcs]
      unfold Blk.mapR at hr'
      simp only [hbox, if_true, List.mem_map] at hr'
      obtain ⟨r0, h1, rfl⟩ := hr'
      rw [mapRs_length]; exact d1 r0 h1
    · rw [hcs]
      exact d2 fun h => hne (by rw [← List.length_eq_zero_iff, mapR_len, h]; rfl)
    · rw [hθ]
      cases hB : g1.θ 0 s [] with
      | none => rw [hB] at d3; rw [← List.length_eq_zero_iff, mapR_len, d3]; rfl
      | some B =>
        rw [hB] at d3
        obtain ⟨arr, ty, fz, a1, a2, a3, a4, a5⟩ := d3
        refine ⟨arr, ty, fz, a1, a2, a3.trans (hκ [] B hB).symm, by rw [hcs, mapR_len]; exact a4, fun i c v hv => ?_⟩
        rw [mapR_cell hbox] at hv
        obtain ⟨u, h1, h2⟩ := Option.map_eq_some_iff.1 hv
        obtain ⟨cv, c1, c2⟩ := a5 i c u h1
        refine ⟨cv, by rw [hcs]; exact c1, ?_⟩
        have hu : VRel S1 g1 cell u cv := by
          cases u with
          | own fl zs => exact absurd h1 (hown _ _ _ _)
          | _ => have := c2.1; rwa [mapR_up0] at this
        have hu2 := (hcell u cv hu (.inl ⟨i, c, hbox, h1⟩)).ren hr
        rw [h2] at hu2
        have hvown : ∀ fl zs, v ≠ .own fl zs := fun fl zs he => mapR_own (f := f) hbox hown i c fl zs (by rw [mapR_cell hbox, h1]; simp [h2, he])
        rw [← mapR_up0 v] at hu2
        cases v <;> first | exact absurd rfl (hvown _ _) | exact ⟨hu2, fun h => by rw [q2, hbox] at h; cases h⟩
  · have hbox' : b.box = false := by simpa using hbox
    rw [mapR_arr hbox'] at q4
    rw [q4] at hn
    obtain ⟨d1, d2, d3⟩ := hall p ys hn
    refine ⟨by rw [q1]; exact d1, by rw [q1]; exact d2, ?_⟩
    rw [hθ, q1]
    cases hB : g1.θ 0 s p with
    | none => rw [hB] at d3; exact d3
    | some B =>
      rw [hB] at d3
      obtain ⟨arr, ty, fz, a1, a2, a3, a4, a5⟩ := d3
      refine ⟨arr, ty, fz, a1, a2, a3.trans (hκ p B hB).symm, a4, fun i c v hv => ?_⟩
      obtain ⟨cv, c1, c2⟩ := a5 i c v hv
      refine ⟨cv, c1, ?_⟩
      cases v with
      | own fl zs =>
        obtain ⟨k1, k2, k3, k4⟩ := c2
        exact ⟨by rw [q2]; exact k1, by rw [q3]; exact k2, k3, by rw [hθ]; exact k4⟩
      | _ =>
        have hs := c2.2 hbox'
        have h1 := c2.1
        rw [scal_mapR hs] at h1
        have h2 := (hcell _ cv h1 (.inr hs)).ren hr
        rw [scal_mapR hs] at h2
        refine ⟨by rw [scal_mapR hs]; exact h2, fun _ => hs⟩
end
end Go.Ae
