/- Calls by reference: the callee sees the caller's memory one level up. -/
import Derived.Test.YtgmfljabhcamlaaAeCalls
namespace Go.Ae
open Go.RowKit
set_option linter.unusedVariables false
set_option linter.unusedSimpArgs false
section
variable {P : Program} {w w0 : World} {M : Nat → Nat → Path → Option Nat} {R : Nat → Prop} {S : St} {g : G} {a : Act} {o : Oper}

abbrev RefMap := Nat → Nat → Nat → Path → Option (Nat × Nat × Nat)
def RefMap.comp (f h : RefMap) : RefMap := fun lv s v p => match f lv s v p with | some (lv', s', v') => h lv' s' v' p | none => none
mutual
theorem mapR_comp (f h : RefMap) : ∀ v : AV, (v.mapR f).mapR h = v.mapR (f.comp h)
  | .int .. => rfl
  | .bool _ => rfl
  | .str _ => rfl
  | .nil .. => rfl
  | .rd .. => rfl
  | .own .. => rfl
  | .sl lv s v p off len => by
    simp only [AV.mapR, RefMap.comp]
    cases f lv s v p with
    | none => rfl
    | some t => rfl
  | .ptr lv s v p i c => by
    simp only [AV.mapR, RefMap.comp]
    cases f lv s v p with
    | none => rfl
    | some t => rfl
  | .rptr _ => rfl
  | .agg cs => by simp [AV.mapR, mapRs_comp f h cs]
  | .fn f' cs => by simp [AV.mapR, mapRs_comp f h cs]
  | .tup cs => by simp [AV.mapR, mapRs_comp f h cs]
  | .skp => rfl
  | .undef => rfl
theorem mapRs_comp (f h : RefMap) : ∀ vs : List AV, AV.mapRs h (AV.mapRs f vs) = AV.mapRs (f.comp h) vs
  | [] => rfl
  | v :: r => by simp [AV.mapRs, mapR_comp f h v, mapRs_comp f h r]
end

def gUp (g : G) : G := ⟨fun lv s p => match lv with | 0 => none | n + 1 => g.θ n s p, g.κ⟩
def gDn (g : G) : G := ⟨fun lv s p => g.θ (lv + 1) s p, g.κ⟩
def downR (lv s v : Nat) (_ : Path) : Option (Nat × Nat × Nat) := match lv with | 0 => none | n + 1 => some (n, s, v)

theorem up_shift (k : Nat) : RefMap.comp (upR k) shiftR = upR (k + 1) := by funext lv s v p; simp [RefMap.comp, upR, shiftR, Nat.add_assoc]
theorem up_down (k : Nat) : RefMap.comp (upR (k + 1)) downR = upR k := by funext lv s v p; simp only [RefMap.comp, upR, downR]; rfl

theorem heap_up (l : List AV) (S : St) (lv : Nat) : (⟨l, [], S.loc :: S.ext⟩ : St).heap (lv + 1) = S.heap lv := by cases lv <;> simp [St.heap]
theorem blk_up (l : List AV) (S : St) (lv s : Nat) : (⟨l, [], S.loc :: S.ext⟩ : St).blk (lv + 1) s = S.blk lv s := by unfold St.blk; rw [heap_up]
theorem at_up (l : List AV) (S : St) (lv s v : Nat) (p : Path) : (⟨l, [], S.loc :: S.ext⟩ : St).at (lv + 1) s v p = S.at lv s v p := by unfold St.at; rw [blk_up]

theorem ren_up (l : List AV) : RenOk shiftR S g ⟨l, [], S.loc :: S.ext⟩ (gUp g) := by
  intro lv s v p lv' s' v' hf hk
  simp only [shiftR, Option.some.injEq, Prod.mk.injEq] at hf
  obtain ⟨rfl, rfl, rfl⟩ := hf
  obtain ⟨ob, h1, h2⟩ := hk
  refine ⟨⟨ob, by rw [heap_up]; exact h1, h2⟩, fun b' ys' hat => ?_⟩
  rw [at_up] at hat
  exact ⟨b', ys', hat, Nat.le_refl _, rfl, rfl, rfl, fun B _ => rfl⟩

/-- A block's content, told from another level. -/
theorem Cont.level {f : RefMap} {cell : Addr → Option Value} {S1 S2 : St} {g1 g2 : G} {lv lv' s : Nat} {b : Blk} {p : Path} {ys : List (List AV)} (h : Cont cell S1 g1 w lv s b p ys) (hr : RenOk f S1 g1 S2 g2) (hf : RefMap.comp (upR lv) f = upR lv')
    (hθ : ∀ q, g2.θ lv' s q = g1.θ lv s q) (hκ : ∀ q B, g1.θ lv s q = some B → g2.κ B = g1.κ B) : Cont cell S2 g2 w lv' s b p ys := by
  obtain ⟨d1, d2, d3⟩ := h
  refine ⟨d1, d2, ?_⟩
  rw [hθ]
  cases hB : g1.θ lv s p with
  | none => rw [hB] at d3; exact d3
  | some B =>
    rw [hB] at d3
    obtain ⟨arr, ty, fz, a1, a2, a3, a4, a5⟩ := d3
    refine ⟨arr, ty, fz, a1, a2, a3.trans (hκ p B hB).symm, a4, fun i c v hv => ?_⟩
    obtain ⟨cv, c1, c2⟩ := a5 i c v hv
    refine ⟨cv, c1, ?_⟩
    cases v with
    | own fl zs =>
      obtain ⟨k1, k2, k3, k4⟩ := c2
      exact ⟨k1, k2, k3, by rw [hθ]; exact k4⟩
    | _ =>
      have h1 := (VRel.ren hr c2.1)
      rw [mapR_comp, hf] at h1
      exact ⟨h1, c2.2⟩

theorem args_up {args : List AV} {cargs : Array Value} {l : List AV} {cell : Addr → Option Value} (h : VRels S g cell args cargs) : VRels ⟨l, [], S.loc :: S.ext⟩ (gUp g) cell (args.map (AV.mapR shiftR)) cargs := by
  refine ⟨by rw [List.length_map]; exact h.1, fun i v hv => ?_⟩
  rw [List.getElem?_map] at hv
  obtain ⟨u, h1, rfl⟩ := Option.map_eq_some_iff.1 hv
  exact (h.2 i u h1).ren (ren_up l)

/-- A call by reference; its answer taken in at 'base'. -/
theorem callRef_ok {O : Oracle} {base f : Nat} {args : List AV} {r : Res} {l : Heap} {e : List Heap} {S' : St} {cargs : Array Value} (hO : OracleOk P O) (hR : RdW w0 M R) (hW : WRel w0 M R S g w) (hargs : VRels S g (stab w0 R) args cargs)
    (hr : O f (args.map (AV.mapR shiftR)) (S.loc :: S.ext) = some r) (hext : r.ext = l :: e) (hn : addNews { S with loc := l, ext := e } (numbered base (r.blks.map (Blk.mapR (injR base)))) = some S') :
    Calls P f cargs w (fun en w' => ∃ cv g', en = .returned cv ∧ Outc w0 M R S g S' (r.val.mapR (injR base)) cv w' g') := by
  have hown : ∀ B, R B → ∀ lv s p, g.θ lv s p ≠ some B := fun B hB lv s p h => by
    obtain ⟨h1, h2⟩ := hR.r B hB
    cases lv with
    | zero => have := hW.fresh s p B h; omega
    | succ n => rcases hW.ext n s p B h with h3 | h3
                · exact h2 _ _ _ h3
                · omega
  have hup : ∀ B, (∀ lv s p, g.θ lv s p ≠ some B) → ∀ lv s p, (gUp g).θ lv s p ≠ some B := fun B hB lv s p h => by
    cases lv with
    | zero => cases h
    | succ n => exact hB n s p h
  have hse := stab_eq hR hW
  have hcall := hO f _ _ r hr w R (gUp g) cargs ⟨fun B hB => ⟨Nat.lt_of_lt_of_le (hR.r B hB).1 hW.size, hup B (hown B hB)⟩⟩ (fun s p => rfl)
    { os := rfl, tape := rfl, output := rfl, size := Nat.le_refl _, keep := fun B _ _ => rfl,
      rng := fun lv s p B h => by cases lv with
        | zero => cases h
        | succ n => exact hW.rng n s p B h,
      fresh := fun s p B h => by (cases h), ext := fun lv s p B h => .inl h,
      inj := fun lv s p lv' s' p' B h h' => by
        cases lv with
        | zero => cases h
        | succ n => cases lv' with
          | zero => cases h'
          | succ m => obtain ⟨e1, e2, e3⟩ := hW.inj n s p m s' p' B h h'; exact ⟨by omega, e2, e3⟩,
      cont := fun lv s b p ys hb hp => by
        cases lv with
        | zero => simp [St.blk, St.heap, Heap.get] at hb
        | succ n =>
          rw [blk_up] at hb
          have := (hW.cont n s b p ys hb hp).level (ren_up (args.map (AV.mapR shiftR))) (up_shift n) (fun q => rfl) (fun q B _ => rfl)
          rw [hse]; exact this }
    (by rw [hse]; exact args_up hargs)
  refine hcall.mono ?_
  rintro en w' ⟨cv, gc, rfl, hC, hE, hV⟩
  rw [hse] at hV
  let Sm : St := { S with loc := l, ext := e }
  have hheap : ∀ lv, (resSt r).heap (lv + 1) = Sm.heap lv := fun lv => by cases lv <;> simp [St.heap, resSt, hext, Sm]
  have hblk : ∀ lv s, (resSt r).blk (lv + 1) s = Sm.blk lv s := fun lv s => by unfold St.blk; rw [hheap]
  have hat' : ∀ lv s v p, (resSt r).at (lv + 1) s v p = Sm.at lv s v p := fun lv s v p => by unfold St.at; rw [hblk]
  have hdown : RenOk downR (resSt r) gc Sm (gDn gc) := by
    intro lv s v p lv' s' v' hf hk
    cases lv with
    | zero => simp [downR] at hf
    | succ n =>
      simp only [downR, Option.some.injEq, Prod.mk.injEq] at hf
      obtain ⟨rfl, rfl, rfl⟩ := hf
      obtain ⟨ob, h1, h2⟩ := hk
      rw [hheap] at h1
      exact ⟨⟨ob, h1, h2⟩, fun b' ys' ha => ⟨b', ys', by rw [hat']; exact ha, Nat.le_refl _, rfl, rfl, rfl, fun B _ => rfl⟩⟩
  have hMid : WRel w0 M R Sm (gDn gc) w' :=
    { os := hC.os.trans hW.os, tape := hC.tape.trans hW.tape, output := hC.output.trans hW.output, size := Nat.le_trans hW.size hC.size,
      keep := fun B hB hM => by
        have hno : ∀ lv s p, g.θ lv s p ≠ some B := fun lv s p h => by
          cases lv with
          | zero => have := hW.fresh s p B h; omega
          | succ n => rcases hW.ext n s p B h with h3 | h3
                      · exact hM _ _ _ h3
                      · omega
        exact (hC.keep B (Nat.lt_of_lt_of_le hB hW.size) (hup B hno)).trans (hW.keep B hB hM),
      rng := fun lv s p B h => hC.rng _ _ _ _ h,
      fresh := fun s p B h => by
        rcases hC.ext 0 s p B h with h1 | h1
        · exact hW.fresh s p B h1
        · exact Nat.le_trans hW.size h1,
      ext := fun lv s p B h => by
        rcases hC.ext (lv + 1) s p B h with h1 | h1
        · exact hW.ext lv s p B h1
        · exact .inr (Nat.le_trans hW.size h1),
      inj := fun lv s p lv' s' p' B h h' => by
        obtain ⟨e1, e2, e3⟩ := hC.inj _ _ _ _ _ _ B h h'
        exact ⟨by omega, e2, e3⟩,
      cont := fun lv s b p ys hb hp => by
        have := (hC.cont (lv + 1) s b p ys (by rw [hblk]; exact hb) hp).level hdown (up_down lv) (fun q => rfl) (fun q B _ => rfl)
        rw [hse] at this; exact this }
  have hEm : Ext S g Sm (gDn gc) := by
    intro lv s ob hob
    obtain ⟨ob', h1, h2⟩ := hE (lv + 1) s ob (by rw [heap_up]; exact hob)
    refine ⟨ob', by rw [← hheap]; exact h1, fun b' hb' => ?_⟩
    obtain ⟨b, e1, e2, e3⟩ := h2 b' hb'
    exact ⟨b, e1, e2, e3⟩
  -- what it made
  let blks := r.blks.map (Blk.mapR (injR base))
  have hnews : News Sm S' (nbOf base blks) := addNews_numbered hn
  let t : Nat → Path → Option Nat := fun s p => if base ≤ s then gc.θ 0 (s - base) p else none
  let gN := (gDn gc).adds (nbOf base blks) t gc.κ
  have hnb : ∀ k b, r.blks[k]? = some b → nbOf base blks (base + k) = some (b.mapR (injR base)) := fun k b hb => by
    unfold nbOf
    rw [if_pos (by omega), show base + k - base = k by omega, List.getElem?_map, hb]; rfl
  have hnb' : ∀ s b, nbOf base blks s = some b → ∃ k b0, s = base + k ∧ r.blks[k]? = some b0 ∧ b = b0.mapR (injR base) := fun s b hs => by
    unfold nbOf at hs
    split at hs
    · rename_i hle
      rw [List.getElem?_map] at hs
      obtain ⟨b0, h1, h2⟩ := Option.map_eq_some_iff.1 hs
      exact ⟨s - base, b0, by omega, h1, h2.symm⟩
    · cases hs
  have hEN : Ext Sm (gDn gc) S' gN := Ext.news hnews t fun _ _ _ _ _ => rfl
  have hren : RenOk (injR base) (resSt r) gc S' gN := by
    intro lv s v p lv' s' v' hf hk
    cases lv with
    | succ q =>
      simp only [injR, Option.some.injEq, Prod.mk.injEq] at hf
      obtain ⟨rfl, rfl, rfl⟩ := hf
      obtain ⟨ob, h1, h2⟩ := hk
      rw [hheap] at h1
      have hkm : KeyOk Sm q s v := ⟨ob, h1, h2⟩
      refine ⟨hkm.mono hEN, fun b' ys' ha => ?_⟩
      obtain ⟨q1, q2, q3⟩ := at_blk ha
      obtain ⟨ob', k1, k2⟩ := hEN q s ob h1
      rw [blk_get q1] at k1; cases k1
      obtain ⟨b, hb, hle, hsame⟩ := k2 b' rfl
      subst hb
      have hvv : b.ver = b'.ver := by have := h2 b rfl; omega
      obtain ⟨e1, e2⟩ := hsame hvv
      obtain ⟨ys, c1, c2, c3, c4, c5⟩ := e2 p ys' q3
      exact ⟨b, ys, by rw [hat']; exact at_mk (get_blk h1) (by omega) c1, c2, e1, c3, c4, c5⟩
    | zero =>
      simp only [injR, Option.some.injEq, Prod.mk.injEq] at hf
      obtain ⟨rfl, rfl, rfl⟩ := hf
      obtain ⟨ob, h1, h2⟩ := hk
      rw [res_get] at h1
      obtain ⟨b, hb, rfl⟩ := Option.map_eq_some_iff.1 h1
      have hbN := hnb s b hb
      obtain ⟨e1, e2, e3, e4⟩ := mapR_ver (f := injR base) b
      refine ⟨⟨some (b.mapR (injR base)), ?_, fun b' h => by cases h; rw [e1]; exact h2 b rfl⟩, fun b' ys' hat => ?_⟩
      · rw [hnews.get]; simp [hbN]
      · obtain ⟨q1, q2, q3⟩ := at_blk hat
        rw [hnews.blk] at q1
        simp only [if_true, hbN, Option.some.injEq] at q1
        subst q1
        have hbr : (resSt r).blk 0 s = some b := by rw [res_blk]; exact hb
        have hθ : gN.θ 0 (base + s) p = gc.θ 0 s p := by
          rw [show gN.θ 0 (base + s) p = _ from adds_θ (gDn gc) _ t gc.κ 0 (base + s) p, if_pos ⟨rfl, by rw [hbN]; rfl⟩]
          simp only [t]; rw [if_pos (by omega), show base + s - base = s by omega]
        by_cases hbox : b.box = true
        · have hown := fun i c fl zs => box_own (hC.cont 0 s b [] b.elems hbr rfl) hbox (i := i) (c := c) (fl := fl) (zs := zs)
          obtain ⟨rfl, rfl⟩ := box_nav (mapR_own (f := injR base) hbox hown) q3
          exact ⟨b, b.elems, at_mk hbr (by rw [q2, e1]) rfl, by rw [mapR_len]; exact Nat.le_refl _, e2, e2, hθ, fun B hB => rfl⟩
        · have hbox' : b.box = false := by simpa using hbox
          rw [mapR_arr hbox'] at q3 q2 ⊢
          exact ⟨b, ys', at_mk hbr q2 q3, Nat.le_refl _, rfl, rfl, hθ, fun B hB => rfl⟩
  have hWN : WRel w0 M R S' gN w' := by
    refine hMid.extends hnews t gc.κ (fun _ _ _ _ _ => rfl) (fun s p B hs hB => ?_) (fun s p s' q B h1 h2 => ?_) fun s b p ys hs hp => ?_
    · simp only [t] at hB
      split at hB
      · have hf := hC.fresh _ _ _ hB
        refine ⟨Nat.le_trans hW.size hf, hC.rng _ _ _ _ hB, fun lv s p h => ?_⟩
        obtain ⟨h1, _, _⟩ := hC.inj _ _ _ _ _ _ B h hB
        omega
      · cases hB
    · simp only [t] at h1 h2
      split at h1 <;> split at h2 <;> first | cases h1 | cases h2 | skip
      obtain ⟨_, q1, q2⟩ := hC.inj _ _ _ _ _ _ B h1 h2
      exact ⟨by omega, q2⟩
    · obtain ⟨k, b0, rfl, hb0, rfl⟩ := hnb' s b hs
      have hbr : (resSt r).blk 0 k = some b0 := by rw [res_blk]; exact hb0
      refine Cont.ren (b := b0) (s := k) (cell := stab w R) hren (fun u cv' hu _ => by rw [hse] at hu; exact hu) (fun p ys hp => hC.cont 0 k b0 p ys hbr hp) (fun q => ?_) (fun q B hB => rfl) (by cases hq : b0.mapR (injR base); rfl) hp
      rw [show gN.θ 0 (base + k) q = _ from adds_θ (gDn gc) _ t gc.κ 0 (base + k) q, if_pos ⟨rfl, by rw [hs]; rfl⟩]
      simp only [t]; rw [if_pos (by omega), show base + k - base = k by omega]
  exact ⟨cv, gN, rfl, hWN, hEm.trans hEN, hV.ren hren⟩
end
end Go.Ae
