/- Places that get other names; what a call answers, taken in. -/
import Derived.Test.YtgmfljabhcamlaaAeCall
namespace Go.Ae
open Go.RowKit
set_option linter.unusedVariables false
set_option linter.unusedSimpArgs false
section
variable {P : Program} {w w0 : World} {M : Nat → Nat → Path → Option Nat} {R : Nat → Prop} {S : St} {g : G} {a : Act} {o : Oper}

def RenOk (f : Nat → Nat → Nat → Path → Option (Nat × Nat × Nat)) (S1 : St) (g1 : G) (S2 : St) (g2 : G) : Prop := ∀ lv s v p lv' s' v', f lv s v p = some (lv', s', v') → KeyOk S1 lv s v →
  KeyOk S2 lv' s' v' ∧ ∀ b' ys', S2.at lv' s' v' p = some (b', ys') → ∃ b ys, S1.at lv s v p = some (b, ys) ∧ ys.length ≤ ys'.length ∧ b'.sz = b.sz ∧ csz b'.sz p ys' = csz b.sz p ys ∧ g2.θ lv' s' p = g1.θ lv s p ∧ ∀ B, g1.θ lv s p = some B → g2.κ B = g1.κ B

theorem mapRs_get {f : Nat → Nat → Nat → Path → Option (Nat × Nat × Nat)} {cs : List AV} {i : Nat} {v : AV} (h : (AV.mapRs f cs)[i]? = some v) : ∃ u, cs[i]? = some u ∧ v = u.mapR f := by
  rw [mapRs_map, List.getElem?_map] at h
  obtain ⟨u, h1, h2⟩ := Option.map_eq_some_iff.1 h
  exact ⟨u, h1, h2.symm⟩
theorem mapRs_length {f : Nat → Nat → Nat → Path → Option (Nat × Nat × Nat)} (cs : List AV) : (AV.mapRs f cs).length = cs.length := by rw [mapRs_map]; simp

theorem VRel.ren {f : Nat → Nat → Nat → Path → Option (Nat × Nat × Nat)} {S1 S2 : St} {g1 g2 : G} {cell : Addr → Option Value} (h : RenOk f S1 g1 S2 g2) {v : AV} {cv : Value} (k : VRel S1 g1 cell v cv) : VRel S2 g2 cell (v.mapR f) cv := by
  induction k with
  | int k n => exact .int k n
  | bool b => exact .bool b
  | str s => exact .str s
  | nil fl sz => exact .nil fl sz
  | skp => exact .skp
  | undef v => exact .undef v
  | rd fl xs v h => exact .rd fl xs v h
  | rptr cs v h => exact .rptr cs v h
  | sl lv s ver p off len v hk hv hs =>
    simp only [AV.mapR]
    cases hf : f lv s ver p with
    | none => exact .undef _
    | some t =>
      obtain ⟨lv', s', v'⟩ := t
      obtain ⟨h1, h2⟩ := h lv s ver p lv' s' v' hf hk
      refine .sl _ _ _ _ _ _ _ h1 hv fun b' ys' hat => ?_
      obtain ⟨b, ys, e1, e2, e3, e4, e5, e6⟩ := h2 b' ys' hat
      exact (hs b ys e1).move' e3 e2 e4 e5 e6
  | ptr lv s ver p i c v hk hv hs =>
    simp only [AV.mapR]
    cases hf : f lv s ver p with
    | none => exact .undef _
    | some t =>
      obtain ⟨lv', s', v'⟩ := t
      obtain ⟨h1, h2⟩ := h lv s ver p lv' s' v' hf hk
      refine .ptr _ _ _ _ _ _ _ h1 hv fun b' ys' hat => ?_
      obtain ⟨b, ys, e1, e2, e3, e4, e5, e6⟩ := h2 b' ys' hat
      obtain ⟨B, q1, q2⟩ := hs b ys e1
      exact ⟨B, e5.trans q1, by rw [e4]; exact q2⟩
  | agg cs arr hl _ ih => exact .agg _ arr (by rw [mapRs_length]; exact hl) fun i v hv => by obtain ⟨u, hu, rfl⟩ := mapRs_get hv; exact ih i u hu
  | fn f' cs arr hl _ ih => exact .fn f' _ arr (by rw [mapRs_length]; exact hl) fun i v hv => by obtain ⟨u, hu, rfl⟩ := mapRs_get hv; exact ih i u hu
  | tup cs arr hl _ ih => exact .tup _ arr (by rw [mapRs_length]; exact hl) fun i v hv => by obtain ⟨u, hu, rfl⟩ := mapRs_get hv; exact ih i u hu

/-! ### What is only read may be told of other cells where there is none of it -/
theorem bearss_get : ∀ {cs : List AV} {i : Nat} {v : AV}, AV.bearss cs = false → cs[i]? = some v → v.bears = false
  | [], i, v, h, hv => by simp at hv
  | u :: r, i, v, h, hv => by
    simp only [AV.bearss, Bool.or_eq_false_iff] at h
    cases i with
    | zero => simp at hv; subst hv; exact h.1
    | succ i => exact bearss_get h.2 (by simpa using hv)
theorem VRel.cell {cell cell' : Addr → Option Value} {v : AV} {cv : Value} (k : VRel S g cell v cv) : v.bears = false → VRel S g cell' v cv := by
  induction k with
  | int k n => intro _; exact .int k n
  | bool b => intro _; exact .bool b
  | str s => intro _; exact .str s
  | nil fl sz => intro _; exact .nil fl sz
  | skp => intro _; exact .skp
  | undef v => intro _; exact .undef v
  | rd fl xs v h => intro hb; simp [AV.bears] at hb
  | rptr cs v h => intro hb; simp [AV.bears] at hb
  | sl lv s ver p off len v hk hv hs => intro _; exact .sl lv s ver p off len v hk hv hs
  | ptr lv s ver p i c v hk hv hs => intro _; exact .ptr lv s ver p i c v hk hv hs
  | agg cs arr hl _ ih => intro hb; simp only [AV.bears] at hb; exact .agg cs arr hl fun i v hv => ih i v hv (bearss_get hb hv)
  | fn f cs arr hl _ ih => intro hb; simp only [AV.bears] at hb; exact .fn f cs arr hl fun i v hv => ih i v hv (bearss_get hb hv)
  | tup cs arr hl _ ih => intro hb; simp only [AV.bears] at hb; exact .tup cs arr hl fun i v hv => ih i v hv (bearss_get hb hv)

/-! ### Many new places at once -/
structure News (S S' : St) (nb : Nat → Option Blk) : Prop where
  get : ∀ lv t, (S'.heap lv).get t = if lv = 0 then (match nb t with | some b => some (some b) | none => S.loc.get t) else (S.heap lv).get t
  free : ∀ t b, nb t = some b → S.loc.get t = none
theorem News.blk {S S' : St} {nb : Nat → Option Blk} (h : News S S' nb) (lv t : Nat) : S'.blk lv t = if lv = 0 then (match nb t with | some b => some b | none => S.blk 0 t) else S.blk lv t := by
  unfold St.blk
  rw [h.get]
  by_cases hl : lv = 0
  · subst hl
    simp only [if_true]
    cases nb t <;> rfl
  · simp only [hl, if_false]
def G.adds (g : G) (nb : Nat → Option Blk) (t : Nat → Path → Option Nat) (κ : Nat → Nat) : G := { θ := fun lv s p => if lv = 0 ∧ (nb s).isSome = true then t s p else g.θ lv s p, κ }
theorem adds_θ (g : G) (nb : Nat → Option Blk) (t : Nat → Path → Option Nat) (κ : Nat → Nat) (lv s : Nat) (p : Path) : (g.adds nb t κ).θ lv s p = if lv = 0 ∧ (nb s).isSome = true then t s p else g.θ lv s p := rfl

theorem Ext.news {S S' : St} {nb : Nat → Option Blk} (hn : News S S' nb) (t : Nat → Path → Option Nat) {κ : Nat → Nat} (hκ : ∀ lv s p B, g.θ lv s p = some B → κ B = g.κ B) : Ext S g S' (g.adds nb t κ) := by
  intro lv s ob hob
  have hne : ¬ (lv = 0 ∧ (nb s).isSome = true) := by
    rintro ⟨rfl, h2⟩
    obtain ⟨b, hb⟩ := Option.isSome_iff_exists.1 h2
    have := hn.free s b hb
    rw [show S.heap 0 = S.loc from rfl, this] at hob
    cases hob
  refine ⟨ob, ?_, fun b' hb' => ⟨b', hb', Nat.le_refl _, fun _ => ⟨rfl, fun p ys hp => ⟨ys, hp, Nat.le_refl _, rfl, ?_, fun B hB => hκ _ _ _ B hB⟩⟩⟩⟩
  · rw [hn.get]
    by_cases hl : lv = 0
    · subst hl
      have : nb s = none := by cases hs : nb s with
        | none => rfl
        | some b => exact absurd ⟨rfl, by rw [hs]; rfl⟩ hne
      simp only [if_true, this]; exact hob
    · simp only [hl, if_false]; exact hob
  · rw [adds_θ, if_neg hne]

theorem WRel.extends (h : WRel w0 M R S g w) {S' : St} {nb : Nat → Option Blk} (hn : News S S' nb) (t : Nat → Path → Option Nat) (κ : Nat → Nat)
    (hκ : ∀ lv s p B, g.θ lv s p = some B → κ B = g.κ B) (ht : ∀ s p B, (nb s).isSome = true → t s p = some B → w0.heap.size ≤ B ∧ B < w.heap.size ∧ ∀ lv s p, g.θ lv s p ≠ some B)
    (htinj : ∀ s p s' q B, t s p = some B → t s' q = some B → s = s' ∧ p = q)
    (hcont : ∀ s b p ys, nb s = some b → navE b.elems p = some ys → Cont (stab w0 R) S' (g.adds nb t κ) w 0 s b p ys) : WRel w0 M R S' (g.adds nb t κ) w where
  os := h.os
  tape := h.tape
  output := h.output
  size := h.size
  keep := h.keep
  rng := fun lv s' p B hB => by
    rw [adds_θ] at hB
    by_cases hc : lv = 0 ∧ (nb s').isSome = true
    · rw [if_pos hc] at hB; exact (ht _ p B hc.2 hB).2.1
    · rw [if_neg hc] at hB; exact h.rng _ _ _ _ hB
  fresh := fun s' p B hB => by
    rw [adds_θ] at hB
    by_cases hc : (0 : Nat) = 0 ∧ (nb s').isSome = true
    · rw [if_pos hc] at hB; exact (ht _ p B hc.2 hB).1
    · rw [if_neg hc] at hB; exact h.fresh _ _ _ hB
  ext := fun lv s' p B hB => by
    rw [adds_θ] at hB
    rw [if_neg (by omega)] at hB
    exact h.ext _ _ _ _ hB
  inj := fun lv s1 p lv' s2 q B h1 h2 => by
    rw [adds_θ] at h1 h2
    by_cases hc : lv = 0 ∧ (nb s1).isSome = true <;> by_cases hd : lv' = 0 ∧ (nb s2).isSome = true
    · rw [if_pos hc] at h1; rw [if_pos hd] at h2
      obtain ⟨e1, e2⟩ := htinj _ _ _ _ B h1 h2
      exact ⟨hc.1.trans hd.1.symm, e1, e2⟩
    · rw [if_pos hc] at h1; rw [if_neg hd] at h2
      exact absurd h2 ((ht _ p B hc.2 h1).2.2 _ _ _)
    · rw [if_neg hc] at h1; rw [if_pos hd] at h2
      exact absurd h1 ((ht _ q B hd.2 h2).2.2 _ _ _)
    · rw [if_neg hc] at h1; rw [if_neg hd] at h2
      exact h.inj _ _ _ _ _ _ B h1 h2
  cont := fun lv s' b' p ys hb hp => by
    rw [hn.blk] at hb
    have old : ¬ (lv = 0 ∧ (nb s').isSome = true) → S.blk lv s' = some b' → Cont (stab w0 R) S' (g.adds nb t κ) w lv s' b' p ys := fun hc hb =>
      (h.cont lv s' b' p ys hb hp).mono (Ext.news hn t hκ) (fun q => by rw [adds_θ, if_neg hc]) (fun B hB => ⟨rfl, hκ _ _ _ B hB⟩)
    by_cases hl : lv = 0
    · subst hl
      simp only [if_true] at hb
      cases hs : nb s' with
      | some b => rw [hs] at hb; cases hb; exact hcont s' b' p ys hs hp
      | none => rw [hs] at hb; exact old (by rw [hs]; simp) hb
    · rw [if_neg hl] at hb; exact old (fun h => hl h.1) hb
end
end Go.Ae
