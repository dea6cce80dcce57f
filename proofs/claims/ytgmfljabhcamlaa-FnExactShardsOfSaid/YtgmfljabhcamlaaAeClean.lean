/- A round's head: what is dead is forgotten. -/
import Derived.Test.YtgmfljabhcamlaaAeStep
namespace Go.Ae
open Go.RowKit
set_option linter.unusedVariables false
set_option linter.unusedSimpArgs false
section
variable {P : Program} {w w' w0 : World} {M : Nat → Nat → Path → Option Nat} {R : Nat → Prop} {S : St} {g : G} {a : Act} {S0 : St} {g0 : G}

theorem cleanT_get {kt ks : List Nat} : ∀ (l : List AV) (i j : Nat) (v : AV), (cleanT S kt ks i l)[j]? = some v → ∃ u, l[j]? = some u ∧ (v = u.mapR (scrubR S ks) ∨ v = .undef)
  | [], i, j, v, h => by simp [cleanT] at h
  | u :: r, i, j, v, h => by
    cases j with
    | zero =>
      simp only [cleanT, List.getElem?_cons_zero, Option.some.injEq] at h
      refine ⟨u, rfl, ?_⟩
      split at h
      · exact .inl h.symm
      · exact .inr h.symm
    | succ j =>
      simp only [cleanT, List.getElem?_cons_succ] at h
      simpa using cleanT_get r (i + 1) j v h
theorem cleanT_length {kt ks : List Nat} : ∀ (l : List AV) (i : Nat), (cleanT S kt ks i l).length = l.length
  | [], i => rfl
  | u :: r, i => by simp [cleanT, cleanT_length r]
theorem cleanH_get {ks : List Nat} : ∀ (h : Heap) (s : Nat), (cleanH S ks h).get s = if ks.contains s then (h.get s).map (fun ob => ob.map fun b => { Blk.mapR (scrubR S ks) b with ver := 0 }) else none
  | [], s => by simp [cleanH, Heap.get]
  | (t, ob) :: r, s => by
    simp only [cleanH]
    by_cases hk : ks.contains t = true
    · rw [if_pos hk]
      simp only [Heap.get]
      by_cases hs : s = t
      · subst hs
        rw [if_pos rfl, if_pos rfl, if_pos hk]
        cases ob <;> rfl
      · rw [if_neg hs, if_neg hs]; exact cleanH_get r s
    · rw [if_neg hk]
      rw [cleanH_get r s]
      by_cases hs : s = t
      · subst hs; rw [if_neg hk, if_neg hk]
      · simp only [Heap.get]; rw [if_neg hs]

def gClean (g : G) (ks : List Nat) : G := ⟨fun lv s p => match lv with | 0 => if ks.contains s then g.θ 0 s p else none | n + 1 => g.θ (n + 1) s p, g.κ⟩

theorem clean_get0 (kt ks : List Nat) (s : Nat) : ((S.clean kt ks).heap 0).get s = if ks.contains s then (S.loc.get s).map (fun ob => ob.map fun b => { Blk.mapR (scrubR S ks) b with ver := 0 }) else none := cleanH_get _ _
theorem clean_heap (kt ks : List Nat) (n : Nat) : (S.clean kt ks).heap (n + 1) = S.heap (n + 1) := rfl
theorem clean_blk0 {kt ks : List Nat} {s : Nat} {b' : Blk} (h : (S.clean kt ks).blk 0 s = some b') : ks.contains s = true ∧ ∃ b, S.blk 0 s = some b ∧ b' = { Blk.mapR (scrubR S ks) b with ver := 0 } := by
  have := blk_get h
  rw [clean_get0] at this
  by_cases hk : ks.contains s = true
  · rw [if_pos hk] at this
    obtain ⟨ob, h1, h2⟩ := Option.map_eq_some_iff.1 this
    obtain ⟨b, h3, h4⟩ := Option.map_eq_some_iff.1 h2
    subst h3
    exact ⟨hk, b, get_blk h1, h4.symm⟩
  · rw [if_neg hk] at this; cases this
theorem clean_mk {kt ks : List Nat} {s : Nat} {b : Blk} (hk : ks.contains s = true) (h : S.blk 0 s = some b) : ((S.clean kt ks).heap 0).get s = some (some { Blk.mapR (scrubR S ks) b with ver := 0 }) := by
  rw [clean_get0, if_pos hk, show S.loc.get s = some (some b) from blk_get h]; rfl

theorem ren_clean (hW : WRel w0 M R S g w) (kt ks : List Nat) : RenOk (scrubR S ks) S g (S.clean kt ks) (gClean g ks) := by
  intro lv s v p lv' s' v' hf hk
  cases lv with
  | succ n =>
    simp only [scrubR, Option.some.injEq, Prod.mk.injEq] at hf
    obtain ⟨rfl, rfl, rfl⟩ := hf
    obtain ⟨ob, h1, h2⟩ := hk
    exact ⟨⟨ob, h1, h2⟩, fun b' ys' hat => ⟨b', ys', hat, Nat.le_refl _, rfl, rfl, rfl, fun _ _ => rfl⟩⟩
  | zero =>
    simp only [scrubR] at hf
    split at hf
    · rename_i hks
      split at hf
      · rename_i b hb
        split at hf
        · rename_i hv
          cases hf
          have hget := clean_mk (kt := kt) hks hb
          refine ⟨⟨_, hget, fun b' h => by cases h; exact Nat.le_refl _⟩, fun b' ys' hat => ?_⟩
          obtain ⟨h1, h2, h3⟩ := at_blk hat
          rw [get_blk hget] at h1
          cases h1
          obtain ⟨e1, e2, e3, e4⟩ := mapR_ver (f := scrubR S ks) b
          have hθ : (gClean g ks).θ 0 s p = g.θ 0 s p := by simp only [gClean]; rw [if_pos hks]
          by_cases hbox : b.box = true
          · have hown := fun i c fl zs => box_own (hW.cont 0 s b [] b.elems hb rfl) hbox (i := i) (c := c) (fl := fl) (zs := zs)
            obtain ⟨rfl, rfl⟩ := box_nav (mapR_own (f := scrubR S ks) hbox hown) h3
            exact ⟨b, b.elems, at_mk hb hv rfl, by rw [mapR_len]; exact Nat.le_refl _, e2, e2, hθ, fun _ _ => rfl⟩
          · have hbox' : b.box = false := by simpa using hbox
            have h3' : navE b.elems p = some ys' := by rw [show ({ Blk.mapR (scrubR S ks) b with ver := 0 } : Blk).elems = b.elems by simp [mapR_arr hbox']] at h3; exact h3
            exact ⟨b, ys', at_mk hb hv h3', Nat.le_refl _, e2, by show csz (b.mapR (scrubR S ks)).sz p ys' = _; rw [e2], hθ, fun _ _ => rfl⟩
        · cases hf
      · cases hf
    · cases hf

theorem Rel.clean (h : Rel w0 M R S0 g0 S g a w) (h0 : S0.loc = []) (kt ks : List Nat) : Rel w0 M R S0 g0 (S.clean kt ks) (gClean g ks) a w := by
  obtain ⟨hW, hE, hT⟩ := h
  have hr := ren_clean hW kt ks
  refine ⟨?_, ?_, ?_⟩
  · have hθ : ∀ lv s p B, (gClean g ks).θ lv s p = some B → g.θ lv s p = some B := fun lv s p B h => by
      cases lv with
      | zero => simp only [gClean] at h; split at h <;> first | exact h | cases h
      | succ n => exact h
    refine { os := hW.os, tape := hW.tape, output := hW.output, size := hW.size, keep := hW.keep, rng := fun lv s p B h => hW.rng _ _ _ _ (hθ _ _ _ _ h), fresh := fun s p B h => hW.fresh _ _ _ (hθ _ _ _ _ h),
             ext := fun lv s p B h => hW.ext _ _ _ _ (hθ _ _ _ _ h), inj := fun lv s p lv' s' p' B h h' => hW.inj _ _ _ _ _ _ B (hθ _ _ _ _ h) (hθ _ _ _ _ h'), cont := fun lv s b' p ys hb hn => ?_ }
    cases lv with
    | zero =>
      obtain ⟨hks, b, h1, h2⟩ := clean_blk0 hb
      refine Cont.ren (b := b) (cell := stab w0 R) hr (fun v cv h _ => h) (fun p ys hn => hW.cont 0 s b p ys h1 hn) (fun q => by simp only [gClean]; rw [if_pos hks]) (fun _ _ _ => rfl) (b' := b') (by rw [h2]) hn
    | succ n =>
      exact (hW.cont (n + 1) s b' p ys hb hn).level hr (by funext lv s v p; simp only [RefMap.comp, upR, scrubR, Nat.add_eq]; rfl) (fun _ => rfl) (fun _ _ _ => rfl)
  · intro lv s ob hob
    cases lv with
    | zero => rw [show S0.heap 0 = S0.loc from rfl, h0] at hob; simp [Heap.get] at hob
    | succ n =>
      obtain ⟨ob', k1, k2⟩ := hE (n + 1) s ob hob
      exact ⟨ob', k1, k2⟩
  · refine ⟨by show a.tmps.size = (cleanT S kt ks 0 S.tmps).length; rw [cleanT_length]; exact hT.size, fun i v hv => ?_, hT.defers⟩
    obtain ⟨u, h1, h2⟩ := cleanT_get _ _ _ _ (show (cleanT S kt ks 0 S.tmps)[i]? = some v from hv)
    rcases h2 with rfl | rfl
    · exact (hT.val i u h1).ren hr
    · exact .undef _
end
end Go.Ae
