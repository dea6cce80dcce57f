/- Calls: what is asked of a callee, what the caller has of it. -/
import Derived.Test.YtgmfljabhcamlaaAeInj2
namespace Go.Ae
open Go.RowKit
set_option linter.unusedVariables false
set_option linter.unusedSimpArgs false
section
variable {P : Program} {w w0 : World} {M : Nat → Nat → Path → Option Nat} {R : Nat → Prop} {S : St} {g : G} {a : Act} {o : Oper}

/-- The evaluator's answer is the machine's. -/
def CallOk (P : Program) (f : Nat) (args : List AV) (E : List Heap) (r : Res) : Prop := ∀ (w : World) (R : Nat → Prop) (g : G) (cargs : Array Value), RdW w g.θ R → (∀ s p, g.θ 0 s p = none) → WRel w g.θ R ⟨args, [], E⟩ g w → VRels ⟨args, [], E⟩ g (stab w R) args cargs →
  Calls P f cargs w (fun e w' => ∃ cv g', e = .returned cv ∧ WRel w g.θ R (resSt r) g' w' ∧ Ext ⟨args, [], E⟩ g (resSt r) g' ∧ VRel (resSt r) g' (stab w R) r.val cv)
def OracleOk (P : Program) (O : Oracle) : Prop := ∀ f args E r, O f args E = some r → CallOk P f args E r

theorem stab_eq (hR : RdW w0 M R) (hW : WRel w0 M R S g w) : stab w R = stab w0 R := by
  funext ad
  unfold stab
  by_cases h : R ad.block
  · obtain ⟨h1, h2⟩ := hR.r _ h
    rw [if_pos h, if_pos h]
    unfold World.cell?
    rw [hW.keep _ h1 h2]
  · rw [if_neg h, if_neg h]

theorem stables_get : ∀ {cs : List AV} {i : Nat} {v : AV}, AV.stables cs = true → cs[i]? = some v → v.stable = true
  | [], i, v, h, hv => by simp at hv
  | u :: r, i, v, h, hv => by
    simp only [AV.stables, Bool.and_eq_true] at h
    cases i with
    | zero => simp at hv; subst hv; exact h.1
    | succ i => exact stables_get h.2 (by simpa using hv)
/-- A value with no place of one's own in it, as a call is handed it. -/
theorem reify_stable {cell : Addr → Option Value} : ∀ (n : Nat) (v v' : AV) (cv : Value), reify S n v = some v' → v.stable = true → VRel S g cell v cv → Rd cell v' cv
  | 0, v, v', cv, h, hs, hv => by simp [reify] at h
  | n + 1, v, v', cv, h, hs, hv => by
    cases v with
    | int k m => simp [reify] at h; subst h; rw [hv.int_inv]; exact .int _ _
    | bool b => simp [reify] at h; subst h; rw [hv.bool_inv]; exact .bool _
    | str s => simp [reify] at h; subst h; rw [hv.str_inv]; exact .str _
    | nil fl sz => simp [reify] at h; subst h; rw [hv.nil_inv]; exact .rd fl [] none 0 0 (fun _ _ => undef) (Nat.le_refl _) (fun r hr => by simp at hr) (fun _ r hr => by simp at hr) (fun i c v h => by simp [cellAt] at h) (fun i c v h => by simp [cellAt] at h)
    | rd fl xs => simp [reify] at h; subst h; exact hv.rd_inv
    | own fl xs => simp [reify] at h
    | rptr cs => simp [reify] at h; subst h; exact hv.rptr_inv
    | tup xs => simp [reify] at h
    | skp => simp [reify] at h
    | undef => simp [reify] at h; subst h; exact .undef _
    | agg cs =>
      simp only [reify] at h
      simp only [AV.stable] at hs
      split at h
      · rename_i cs' hm
        cases h
        obtain ⟨arr, rfl, hl, hr⟩ := hv.agg_inv
        obtain ⟨m1, m2⟩ := mapO_get hm
        refine .agg cs' arr (by rw [m1, hl]) fun i v hvi => ?_
        obtain ⟨u, hu, hf⟩ := m2 i v hvi
        exact reify_stable n u v _ hf (stables_get hs hu) (hr i u hu)
      · cases h
    | fn f cs =>
      simp only [reify] at h
      simp only [AV.stable] at hs
      split at h
      · rename_i cs' hm
        cases h
        obtain ⟨arr, rfl, hl, hr⟩ := hv.fn_inv
        obtain ⟨m1, m2⟩ := mapO_get hm
        refine .fn f cs' arr (by rw [m1, hl]) fun i v hvi => ?_
        obtain ⟨u, hu, hf⟩ := m2 i v hvi
        exact reify_stable n u v _ hf (stables_get hs hu) (hr i u hu)
      · cases h
    | sl lv s ver p off len => simp [AV.stable] at hs
    | ptr lv s ver p i c => simp [AV.stable] at hs

theorem blk_empty {l : List AV} {lv s : Nat} : (⟨l, [], []⟩ : St).blk lv s = none := by
  unfold St.blk
  cases lv <;> simp [St.heap, Heap.get]

/-- A call by value. -/
theorem callVal_ok {O : Oracle} {base f : Nat} {args : List AV} {fl : Bool} {v : AV} {n : List (Nat × Blk)} {S' : St} {cargs : Array Value} (hO : OracleOk P O) (hR : RdW w0 M R) (hW : WRel w0 M R S g w) (hargs : VRels S g (stab w0 R) args cargs)
    (hc : callVal O S base f args fl = some (v, n)) (hn : addNews S n = some S') : Calls P f cargs w (fun e w' => ∃ cv g', e = .returned cv ∧ Outc w0 M R S g S' v cv w' g') := by
  unfold callVal at hc
  split at hc
  · rename_i as has
    split at hc
    · rename_i r hr
      split at hc
      · cases hc
      · rename_i hfl
        split at hc
        · cases hc
        · rename_i hbear
          cases hc
          obtain ⟨m1, m2⟩ := mapO_get has
          have hext : r.ext = [] := by
            simp only [Bool.or_eq_true, Bool.and_eq_true, Bool.not_eq_true', not_or] at hfl
            simpa using hfl.2
          -- what the callee may read
          obtain ⟨R', hR', hcase⟩ : ∃ R' : Nat → Prop, (∀ B, R' B → B < w.heap.size) ∧ ((R' = R ∧ AV.stables args = true) ∨ (R' = allB w ∧ r.val.bears = false ∧ (r.blks.any Blk.bears) = false)) := by
            by_cases hs : AV.stables args = true
            · exact ⟨R, fun B hB => Nat.lt_of_lt_of_le (hR.r B hB).1 hW.size, .inl ⟨rfl, hs⟩⟩
            · refine ⟨allB w, fun B hB => hB, .inr ⟨rfl, ?_⟩⟩
              have hs' : AV.stables args = false := by simpa using hs
              rw [hs'] at hbear
              simp only [Bool.not_false, Bool.and_true, Bool.not_eq_true, Bool.or_eq_false_iff] at hbear
              exact hbear
          let g0 : G := ⟨fun _ _ _ => none, g.κ⟩
          have hRd : ∀ (i : Nat) (u : AV), as[i]? = some u → Rd (stab w R') u (cargs.getD i undef) := by
            intro i u hu
            obtain ⟨v0, hv0, hf⟩ := m2 i u hu
            rcases hcase with ⟨rfl, hs⟩ | ⟨rfl, _⟩
            · rw [stab_eq hR hW]; exact reify_stable 8 v0 u _ hf (stables_get hs hv0) (hargs.2 i v0 hv0)
            · exact reify_rd hR hW 8 v0 u _ hf (hargs.2 i v0 hv0)
          have hcall := hO f as [] r hr w R' g0 cargs ⟨fun B hB => ⟨hR' B hB, fun lv s p h => by cases h⟩⟩ (fun s p => rfl)
            { os := rfl, tape := rfl, output := rfl, size := Nat.le_refl _, keep := fun B _ _ => rfl, rng := fun lv s p B h => by (cases h), fresh := fun s p B h => by (cases h), ext := fun lv s p B h => by (cases h),
              inj := fun lv s p lv' s' p' B h _ => by (cases h), cont := fun lv s b p ys hb _ => by rw [blk_empty] at hb; cases hb }
            ⟨by rw [m1]; exact hargs.1, fun i u hu => (hRd i u hu).vrel⟩
          refine hcall.mono ?_
          rintro e w' ⟨cv, gc, rfl, hC, hE, hV⟩
          -- behind the call
          have hkeep : ∀ B, B < w.heap.size → w'.heap[B]? = w.heap[B]? := fun B hB => hC.keep B hB fun lv s p h => by cases h
          have hW' : WRel w0 M R S g w' := hW.world hC.os hC.tape hC.output hC.size hkeep
          let blks := r.blks.map (Blk.mapR (injR base))
          have hnews : News S S' (nbOf base blks) := addNews_numbered hn
          let t : Nat → Path → Option Nat := fun s p => if base ≤ s then gc.θ 0 (s - base) p else none
          let κ : Nat → Nat := fun B => if B < w.heap.size then g.κ B else gc.κ B
          have hκ : ∀ lv s p B, g.θ lv s p = some B → κ B = g.κ B := fun lv s p B hB => by simp only [κ]; rw [if_pos (hW.rng lv s p B hB)]
          have hκ2 : ∀ s p B, gc.θ 0 s p = some B → κ B = gc.κ B := fun s p B hB => by
            have := hC.fresh s p B hB
            simp only [κ]; rw [if_neg (by omega)]
          let gN := g.adds (nbOf base blks) t κ
          have hnb : ∀ k b, r.blks[k]? = some b → nbOf base blks (base + k) = some (b.mapR (injR base)) := fun k b hb => by
            unfold nbOf
            rw [if_pos (by omega), show base + k - base = k by omega, List.getElem?_map, hb]; rfl
          have hnb' : ∀ s b, nbOf base blks s = some b → ∃ k b0, s = base + k ∧ r.blks[k]? = some b0 ∧ b = b0.mapR (injR base) := fun s b hs => by
            unfold nbOf at hs
            split at hs
            · rename_i hle
              rw [List.getElem?_map] at hs
              obtain ⟨b0, h1, h2⟩ := Option.map_eq_some_iff.1 hs
              exact ⟨s - base, b0, by omega, h1, h2.symm⟩
            · cases hs
          have hren : RenOk (injR base) (resSt r) gc S' gN := by
            intro lv s v p lv' s' v' hf hk
            cases lv with
            | succ q =>
              obtain ⟨ob, h1, _⟩ := hk
              simp [St.heap, resSt, hext, Heap.get] at h1
            | zero =>
              simp only [injR, Option.some.injEq, Prod.mk.injEq] at hf
              obtain ⟨rfl, rfl, rfl⟩ := hf
              obtain ⟨ob, h1, h2⟩ := hk
              rw [res_get] at h1
              obtain ⟨b, hb, rfl⟩ := Option.map_eq_some_iff.1 h1
              have hbN := hnb s b hb
              obtain ⟨e1, e2, e3, e4⟩ := mapR_ver (f := injR base) b
              refine ⟨⟨some (b.mapR (injR base)), ?_, fun b' h => by cases h; rw [e1]; exact h2 b rfl⟩, fun b' ys' hat => ?_⟩
              · rw [hnews.get]; simp [hbN]
              · obtain ⟨q1, q2, q3⟩ := at_blk hat
                rw [hnews.blk] at q1
                simp only [if_true, hbN, Option.some.injEq] at q1
                subst q1
                have hbr : (resSt r).blk 0 s = some b := by rw [res_blk]; exact hb
                have hθ : gN.θ 0 (base + s) p = gc.θ 0 s p := by
                  rw [show gN.θ 0 (base + s) p = _ from adds_θ g _ t κ 0 (base + s) p, if_pos ⟨rfl, by rw [hbN]; rfl⟩]
                  simp only [t]; rw [if_pos (by omega), show base + s - base = s by omega]
                by_cases hbox : b.box = true
                · have hown := fun i c fl zs => box_own (hC.cont 0 s b [] b.elems hbr rfl) hbox (i := i) (c := c) (fl := fl) (zs := zs)
                  obtain ⟨rfl, rfl⟩ := box_nav (mapR_own (f := injR base) hbox hown) q3
                  exact ⟨b, b.elems, at_mk hbr (by rw [q2, e1]) rfl, by rw [mapR_len]; exact Nat.le_refl _, e2, e2, hθ, fun B hB => hκ2 s [] B hB⟩
                · have hbox' : b.box = false := by simpa using hbox
                  rw [mapR_arr hbox'] at q3 q2 ⊢
                  exact ⟨b, ys', at_mk hbr q2 q3, Nat.le_refl _, rfl, rfl, hθ, fun B hB => hκ2 s p B hB⟩
          have hcellv : ∀ (u : AV) (cv' : Value), VRel (resSt r) gc (stab w R') u cv' → (R' = R ∨ u.bears = false) → VRel (resSt r) gc (stab w0 R) u cv' := fun u cv' h hb => by
            rcases hcase with ⟨hRR, _⟩ | ⟨_, _⟩
            · rw [hRR, stab_eq hR hW] at h; exact h
            · rcases hb with hb | hb
              · rw [hb, stab_eq hR hW] at h; exact h
              · exact h.cell hb
          have hWN : WRel w0 M R S' gN w' := by
            refine hW'.extends hnews t κ hκ (fun s p B hs hB => ?_) (fun s p s' q B h1 h2 => ?_) fun s b p ys hs hp => ?_
            · simp only [t] at hB
              split at hB
              · have hf := hC.fresh _ _ _ hB
                refine ⟨Nat.le_trans hW.size hf, hC.rng _ _ _ _ hB, fun lv s p h => ?_⟩
                have := hW.rng _ _ _ _ h; omega
              · cases hB
            · simp only [t] at h1 h2
              split at h1 <;> split at h2 <;> first | cases h1 | cases h2 | skip
              obtain ⟨_, q1, q2⟩ := hC.inj _ _ _ _ _ _ B h1 h2
              exact ⟨by omega, q2⟩
            · obtain ⟨k, b0, rfl, hb0, rfl⟩ := hnb' s b hs
              have hbr : (resSt r).blk 0 k = some b0 := by rw [res_blk]; exact hb0
              refine Cont.ren (b := b0) (s := k) (cell := stab w R') hren (fun u cv' hu hcond => hcellv u cv' hu ?_) (fun p ys hp => hC.cont 0 k b0 p ys hbr hp) (fun q => ?_) (fun q B hB => hκ2 k q B hB) (by obtain ⟨e1, _⟩ := mapR_ver (f := injR base) b0; cases hq : b0.mapR (injR base); rfl) hp
              · rcases hcase with ⟨hRR, _⟩ | ⟨_, _, hbb⟩
                · exact .inl hRR
                · right
                  rcases hcond with ⟨i, c, hbox, hcl⟩ | hsc
                  · have hbl := List.any_eq_false.1 hbb b0 (List.mem_of_getElem? hb0)
                    simp only [Blk.bears, hbox, Bool.true_and, Bool.not_eq_true] at hbl
                    unfold cellAt at hcl
                    split at hcl
                    · rename_i row hrow
                      have := List.any_eq_false.1 hbl row (List.mem_of_getElem? hrow)
                      exact bearss_get (by simpa using this) hcl
                    · cases hcl
                  · cases u <;> first | rfl | simp [AV.scal] at hsc
              · rw [show gN.θ 0 (base + k) q = _ from adds_θ g _ t κ 0 (base + k) q, if_pos ⟨rfl, by rw [hs]; rfl⟩]
                simp only [t]; rw [if_pos (by omega), show base + k - base = k by omega]
          refine ⟨cv, gN, rfl, hWN, Ext.news hnews t hκ, (hcellv _ _ hV ?_).ren hren⟩
          rcases hcase with ⟨hRR, _⟩ | ⟨_, hb, _⟩
          · exact .inl hRR
          · exact .inr hb
    · cases hc
  · cases hc
end
end Go.Ae
