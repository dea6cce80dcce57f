/- The evaluator's memory: looking up, laying in; what stays true of the machine's when a block is made. -/
import Derived.Test.YtgmfljabhcamlaaAeRel
namespace Go.Ae
open Go.RowKit
set_option linter.unusedVariables false

mutual
theorem mapR_id {f : Nat → Nat → Nat → Path → Option (Nat × Nat × Nat)} (h : ∀ lv s v p, f lv s v p = some (lv, s, v)) : ∀ v : AV, v.mapR f = v
  | .int .. => rfl
  | .bool _ => rfl
  | .str _ => rfl
  | .nil .. => rfl
  | .rd .. => rfl
  | .own .. => rfl
  | .sl lv s v p off len => by simp [AV.mapR, h]
  | .ptr lv s v p i c => by simp [AV.mapR, h]
  | .rptr _ => rfl
  | .agg cs => by simp [AV.mapR, mapRs_id h cs]
  | .fn f cs => by simp [AV.mapR, mapRs_id h cs]
  | .tup cs => by simp [AV.mapR, mapRs_id h cs]
  | .skp => rfl
  | .undef => rfl
theorem mapRs_id {f : Nat → Nat → Nat → Path → Option (Nat × Nat × Nat)} (h : ∀ lv s v p, f lv s v p = some (lv, s, v)) : ∀ vs : List AV, AV.mapRs f vs = vs
  | [] => rfl
  | v :: r => by simp [AV.mapRs, mapR_id h v, mapRs_id h r]
end
theorem mapR_up0 (v : AV) : v.mapR (upR 0) = v := mapR_id (fun _ _ _ _ => rfl) v
theorem scal_mapR {f : Nat → Nat → Nat → Path → Option (Nat × Nat × Nat)} {v : AV} (h : v.scal = true) : v.mapR f = v := by cases v <;> first | rfl | simp [AV.scal] at h
theorem mapRs_map {f : Nat → Nat → Nat → Path → Option (Nat × Nat × Nat)} : ∀ vs : List AV, AV.mapRs f vs = vs.map (AV.mapR f)
  | [] => rfl
  | v :: r => by simp [AV.mapRs, mapRs_map r]

theorem get_set (h : Heap) (s t : Nat) (b : Option Blk) : (h.set s b).get t = if t = s then some b else h.get t := by
  induction h with
  | nil => simp only [Heap.set, Heap.get]
  | cons x r ih =>
    obtain ⟨u, c⟩ := x
    simp only [Heap.set]
    by_cases h1 : s = u
    · subst h1
      rw [if_pos rfl]
      simp only [Heap.get]
      by_cases h2 : t = s <;> simp [h2]
    · rw [if_neg h1]
      by_cases h2 : s < u
      · rw [if_pos h2]
        simp only [Heap.get]
      · rw [if_neg h2]
        simp only [Heap.get, ih]
        by_cases h3 : t = u
        · subst h3; rw [if_pos rfl, if_neg (fun e => h1 e.symm), if_pos rfl]
        · rw [if_neg h3, if_neg h3]

theorem heap_put_same (S : St) (lv s : Nat) (b : Option Blk) (hl : lv = 0 ∨ lv - 1 < S.ext.length) : (S.put lv s b).heap lv = (S.heap lv).set s b := by
  cases lv with
  | zero => rfl
  | succ n =>
    have hn : n < S.ext.length := by simpa using hl
    simp [St.put, St.heap, List.getElem?_eq_getElem hn]
theorem heap_put_other (S : St) (lv lv' s : Nat) (b : Option Blk) (h : lv' ≠ lv) : (S.put lv s b).heap lv' = S.heap lv' := by
  cases lv with
  | zero => cases lv' with
    | zero => exact absurd rfl h
    | succ n => rfl
  | succ n => cases lv' with
    | zero => rfl
    | succ m =>
      have hm : ¬ n = m := fun e => h (by rw [e])
      simp [St.put, St.heap, hm]
theorem ext_lt {S : St} {n s : Nat} {ob : Option Blk} (h : (S.heap (n + 1)).get s = some ob) : n < S.ext.length := by
  by_cases hn : n < S.ext.length
  · exact hn
  · simp [St.heap, List.getElem?_eq_none (Nat.le_of_not_lt hn), Heap.get] at h
theorem lv_ok {S : St} {lv s : Nat} {ob : Option Blk} (h : (S.heap lv).get s = some ob) : lv = 0 ∨ lv - 1 < S.ext.length := by
  cases lv with
  | zero => exact .inl rfl
  | succ n => exact .inr (by simpa using ext_lt h)
theorem get_put {S : St} {lv s : Nat} {ob : Option Blk} (h : (S.heap lv).get s = some ob) (b : Option Blk) (lv' s' : Nat) :
    ((S.put lv s b).heap lv').get s' = if lv' = lv ∧ s' = s then some b else (S.heap lv').get s' := by
  by_cases hl : lv' = lv
  · subst hl
    rw [heap_put_same _ _ _ _ (lv_ok h), get_set]
    by_cases hs : s' = s <;> simp [hs]
  · rw [heap_put_other _ _ _ _ _ hl]
    simp [hl]
theorem put_tmps (S : St) (lv s : Nat) (b : Option Blk) : (S.put lv s b).tmps = S.tmps := by cases lv <;> rfl
theorem put_extlen (S : St) (lv s : Nat) (b : Option Blk) : (S.put lv s b).ext.length = S.ext.length := by cases lv <;> simp [St.put]
theorem blk_put {S : St} {lv s : Nat} {ob : Option Blk} (h : (S.heap lv).get s = some ob) (b : Option Blk) (lv' s' : Nat) :
    (S.put lv s b).blk lv' s' = if lv' = lv ∧ s' = s then b else S.blk lv' s' := by
  unfold St.blk
  rw [get_put h]
  by_cases hl : lv' = lv ∧ s' = s
  · rw [if_pos hl, if_pos hl]; cases b <;> rfl
  · rw [if_neg hl, if_neg hl]

theorem new_get {S S' : St} {s : Nat} {b : Blk} (h : S.new s b = some S') : S.loc.get s = none ∧ S' = { S with loc := S.loc.set s (some b) } := by
  unfold St.new at h
  split at h
  · rename_i hg; cases h; exact ⟨hg, rfl⟩
  · cases h
theorem new_heap {S S' : St} {s : Nat} {b : Blk} (h : S.new s b = some S') (lv t : Nat) : (S'.heap lv).get t = if lv = 0 ∧ t = s then some (some b) else (S.heap lv).get t := by
  obtain ⟨hg, rfl⟩ := new_get h
  cases lv with
  | zero => simp only [St.heap]; rw [get_set]; simp
  | succ n => simp [St.heap]
theorem new_blk {S S' : St} {s : Nat} {b : Blk} (h : S.new s b = some S') (lv t : Nat) : S'.blk lv t = if lv = 0 ∧ t = s then some b else S.blk lv t := by
  unfold St.blk
  rw [new_heap h]
  by_cases hl : lv = 0 ∧ t = s
  · rw [if_pos hl, if_pos hl]
  · rw [if_neg hl, if_neg hl]
theorem new_tmps {S S' : St} {s : Nat} {b : Blk} (h : S.new s b = some S') : S'.tmps = S.tmps := by obtain ⟨_, rfl⟩ := new_get h; rfl
theorem new_ext {S S' : St} {s : Nat} {b : Blk} (h : S.new s b = some S') : S'.ext = S.ext := by obtain ⟨_, rfl⟩ := new_get h; rfl

theorem Cont.mono {cell : Addr → Option Value} {S S' : St} {g g' : G} {w w' : World} {lv s : Nat} {b : Blk} {p : Path} {ys : List (List AV)} (h : Cont cell S g w lv s b p ys)
    (he : Ext S g S' g') (hθ : ∀ q, g'.θ lv s q = g.θ lv s q) (hB : ∀ B, g.θ lv s p = some B → w'.heap[B]? = w.heap[B]? ∧ g'.κ B = g.κ B) : Cont cell S' g' w' lv s b p ys := by
  obtain ⟨h1, h2, h3⟩ := h
  refine ⟨h1, h2, ?_⟩
  rw [hθ p]
  cases hb : g.θ lv s p with
  | none => rw [hb] at h3; exact h3
  | some B =>
    rw [hb] at h3
    obtain ⟨arr, ty, fz, a1, a2, a3, a4, a5⟩ := h3
    obtain ⟨e1, e2⟩ := hB B hb
    refine ⟨arr, ty, fz, e1.trans a1, a2, a3.trans e2.symm, a4, fun i c v hv => ?_⟩
    obtain ⟨cv, c1, c2⟩ := a5 i c v hv
    exact ⟨cv, c1, c2.mono he (hθ _)⟩

/-- The world has new blocks, no more. -/
theorem WRel.world {w0 : World} {M : Nat → Nat → Path → Option Nat} {R : Nat → Prop} {S : St} {g : G} {w w' : World} (h : WRel w0 M R S g w) (hos : w'.os = w.os) (htape : w'.tape = w.tape) (hout : w'.output = w.output)
    (hsz : w.heap.size ≤ w'.heap.size) (hk : ∀ B, B < w.heap.size → w'.heap[B]? = w.heap[B]?) : WRel w0 M R S g w' where
  os := hos.trans h.os
  tape := htape.trans h.tape
  output := hout.trans h.output
  size := Nat.le_trans h.size hsz
  keep := fun B hB hM => (hk B (Nat.lt_of_lt_of_le hB h.size)).trans (h.keep B hB hM)
  rng := fun lv s p B hB => Nat.lt_of_lt_of_le (h.rng lv s p B hB) hsz
  fresh := h.fresh
  ext := h.ext
  inj := h.inj
  cont := fun lv s b p ys hb hn => (h.cont lv s b p ys hb hn).mono (Ext.refl _ _) (fun _ => rfl) (fun B hB => ⟨hk B (h.rng lv s p B hB), rfl⟩)

def G.add (g : G) (s : Nat) (t : Path → Option Nat) (κ : Nat → Nat) : G := { θ := fun lv s' p => if lv = 0 ∧ s' = s then t p else g.θ lv s' p, κ }

theorem Ext.new {S S' : St} {g : G} {s : Nat} {b : Blk} (hn : S.new s b = some S') (t : Path → Option Nat) {κ : Nat → Nat} (hκ : ∀ lv s p B, g.θ lv s p = some B → κ B = g.κ B) : Ext S g S' (g.add s t κ) := by
  intro lv s' ob hob
  have hne : ¬ (lv = 0 ∧ s' = s) := by
    rintro ⟨rfl, rfl⟩
    rw [show S.heap 0 = S.loc from rfl, (new_get hn).1] at hob
    cases hob
  refine ⟨ob, ?_, fun b' hb' => ⟨b', hb', Nat.le_refl _, fun _ => ⟨rfl, fun p ys hp => ⟨ys, hp, Nat.le_refl _, rfl, ?_, fun B hB => hκ _ _ _ B hB⟩⟩⟩⟩
  · rw [new_heap hn, if_neg hne]; exact hob
  · simp [G.add, hne]

theorem add_θ (g : G) (s : Nat) (t : Path → Option Nat) (κ : Nat → Nat) (lv s' : Nat) (p : Path) : (g.add s t κ).θ lv s' p = if lv = 0 ∧ s' = s then t p else g.θ lv s' p := rfl
/-- A new place, its blocks none of the others'. -/
theorem WRel.extend {w0 : World} {M : Nat → Nat → Path → Option Nat} {R : Nat → Prop} {S S' : St} {g : G} {w : World} (h : WRel w0 M R S g w) {s : Nat} {b : Blk} (hn : S.new s b = some S') (t : Path → Option Nat) (κ : Nat → Nat)
    (hκ : ∀ lv s p B, g.θ lv s p = some B → κ B = g.κ B) (ht : ∀ p B, t p = some B → w0.heap.size ≤ B ∧ B < w.heap.size ∧ ∀ lv s p, g.θ lv s p ≠ some B) (htinj : ∀ p q B, t p = some B → t q = some B → p = q)
    (hcont : ∀ p ys, navE b.elems p = some ys → Cont (stab w0 R) S' (g.add s t κ) w 0 s b p ys) : WRel w0 M R S' (g.add s t κ) w where
  os := h.os
  tape := h.tape
  output := h.output
  size := h.size
  keep := h.keep
  rng := fun lv s' p B hB => by
    rw [add_θ] at hB
    by_cases hc : lv = 0 ∧ s' = s
    · rw [if_pos hc] at hB; exact (ht p B hB).2.1
    · rw [if_neg hc] at hB; exact h.rng _ _ _ _ hB
  fresh := fun s' p B hB => by
    rw [add_θ] at hB
    by_cases hc : (0 : Nat) = 0 ∧ s' = s
    · rw [if_pos hc] at hB; exact (ht p B hB).1
    · rw [if_neg hc] at hB; exact h.fresh _ _ _ hB
  ext := fun lv s' p B hB => by
    rw [add_θ] at hB
    rw [if_neg (by omega)] at hB
    exact h.ext _ _ _ _ hB
  inj := fun lv s1 p lv' s2 q B h1 h2 => by
    rw [add_θ] at h1 h2
    by_cases hc : lv = 0 ∧ s1 = s <;> by_cases hd : lv' = 0 ∧ s2 = s
    · rw [if_pos hc] at h1; rw [if_pos hd] at h2
      obtain ⟨rfl, rfl⟩ := hc; obtain ⟨rfl, rfl⟩ := hd
      exact ⟨rfl, rfl, htinj p q B h1 h2⟩
    · rw [if_pos hc] at h1; rw [if_neg hd] at h2
      exact absurd h2 ((ht p B h1).2.2 _ _ _)
    · rw [if_neg hc] at h1; rw [if_pos hd] at h2
      exact absurd h1 ((ht q B h2).2.2 _ _ _)
    · rw [if_neg hc] at h1; rw [if_neg hd] at h2
      exact h.inj _ _ _ _ _ _ B h1 h2
  cont := fun lv s' b' p ys hb hp => by
    rw [new_blk hn] at hb
    by_cases hc : lv = 0 ∧ s' = s
    · rw [if_pos hc] at hb; cases hb
      obtain ⟨rfl, rfl⟩ := hc
      exact hcont p ys hp
    · rw [if_neg hc] at hb
      refine (h.cont lv s' b' p ys hb hp).mono (Ext.new hn t hκ) (fun q => by simp [G.add, hc]) (fun B hB => ⟨rfl, hκ _ _ _ B hB⟩)
end Go.Ae
