/- One operation of a region; a region in the text's order. -/
import Derived.Test.YtgmfljabhcamlaaAeEval3
import Derived.Orders
namespace Go.Ae
open Go.RowKit
set_option linter.unusedVariables false
set_option linter.unusedSimpArgs false
section
variable {P : Program} {w w' w0 : World} {M : Nat → Nat → Path → Option Nat} {R : Nat → Prop} {S : St} {g : G} {a : Act} {o : Oper}

theorem setT_heap (d : Option Nat) (v : AV) (lv : Nat) : (S.setT d v).heap lv = S.heap lv := by cases d <;> cases lv <;> rfl
theorem setT_blk (d : Option Nat) (v : AV) (lv s : Nat) : (S.setT d v).blk lv s = S.blk lv s := by unfold St.blk; rw [setT_heap]
theorem Ext.setT (d : Option Nat) (v : AV) : Ext S g (S.setT d v) g := fun lv s ob h => ⟨ob, by rw [setT_heap]; exact h, fun b' hb => ⟨b', hb, Nat.le_refl _, fun _ => ⟨rfl, fun p ys h => ⟨ys, h, Nat.le_refl _, rfl, rfl, fun _ _ => rfl⟩⟩⟩⟩
theorem WRel.setT (d : Option Nat) (v : AV) (h : WRel w0 M R S g w) : WRel w0 M R (S.setT d v) g w where
  os := h.os
  tape := h.tape
  output := h.output
  size := h.size
  keep := h.keep
  rng := h.rng
  fresh := h.fresh
  ext := h.ext
  inj := h.inj
  cont := fun lv s b p ys hb hn => (h.cont lv s b p ys (by rw [← setT_blk d v]; exact hb) hn).mono (Ext.setT d v) (fun _ => rfl) (fun B hB => ⟨rfl, rfl⟩)
theorem TRel.put {cell : Addr → Option Value} {d : Option Nat} {v : AV} {cv : Value} (hT : TRel S g cell a) (hv : VRel S g cell v cv) : TRel (S.setT d v) g cell (a.put d cv) := by
  have hE := Ext.setT (S := S) (g := g) d v
  cases d with
  | none => exact ⟨hT.size, fun i u hu => (hT.val i u hu).mono hE, hT.defers⟩
  | some d =>
    refine ⟨by simp [Act.put, St.setT, hT.size], fun i u hu => ?_, hT.defers⟩
    simp only [St.setT] at hu
    rw [List.getElem?_set] at hu
    by_cases hd : d = i
    · subst hd
      rw [if_pos rfl] at hu
      split at hu
      · rename_i hlt
        cases hu
        have : (a.put (some d) cv).tmps.getD d undef = cv := by
          have hlt' : d < a.tmps.size := by rw [hT.size]; exact hlt
          simp [Act.put, hlt']
        rw [this]; exact hv.mono hE
      · cases hu
    · rw [if_neg hd] at hu
      have : (a.put (some d) cv).tmps.getD i undef = a.tmps.getD i undef := by
        simp [Act.put, Array.getElem?_setIfInBounds_ne hd]
      rw [this]; exact (hT.val i u hu).mono hE

theorem evalW_tmps {O : Oracle} {md : Nat → Mode} {op : I} {v : AV} {base : Nat} {S' : St} (hq : evalW O md S base op = some (v, S')) : S'.tmps = S.tmps := by
  have ref : ∀ {f : Nat} {args : List AV} {fl : Bool}, callRef O S base f args fl = some (v, S') → S'.tmps = S.tmps := fun {f args fl} hcall => by
    unfold callRef at hcall
    split at hcall
    · split at hcall
      · cases hcall
      · split at hcall
        · split at hcall
          · rename_i hn
            cases hcall
            exact (addNews_tmps hn).1
          · cases hcall
        · cases hcall
    · cases hcall
  unfold evalW at hq
  split at hq
  · split at hq
    · split at hq
      · split at hq
        · split at hq
          · split at hq
            · split at hq
              · split at hq
                · cases hq; exact put_tmps _ _ _ _
                · cases hq
              · split at hq
                · split at hq
                  · rename_i hn; cases hq; rw [put_tmps]; exact (addNews_tmps hn).1
                  · cases hq
                · cases hq
            · split at hq
              · split at hq
                · cases hq; exact put_tmps _ _ _ _
                · cases hq
              · cases hq
          · cases hq
        · cases hq
      · cases hq
    · cases hq
  · split at hq
    · exact ref hq
    · cases hq
  · split at hq
    · split at hq
      · split at hq
        · split at hq
          · rename_i hn; cases hq; exact (addNews_tmps hn).1
          · cases hq
        · cases hq
      · split at hq
        · cases hq; rfl
        · cases hq
      · exact ref hq
    · cases hq
  · split at hq
    · split at hq
      · split at hq
        · split at hq
          · split at hq
            · rename_i hn; cases hq; exact new_tmps hn
            · cases hq
          · cases hq
        · split at hq
          · split at hq
            · cases hq; exact put_tmps _ _ _ _
            · cases hq
          · cases hq
        · cases hq
      · cases hq
    · cases hq
  · cases hq

structure Rel (w0 : World) (M : Nat → Nat → Path → Option Nat) (R : Nat → Prop) (S0 : St) (g0 : G) (S : St) (g : G) (a : Act) (w : World) : Prop where
  wrel : WRel w0 M R S g w
  ext : Ext S0 g0 S g
  trel : TRel S g (stab w0 R) a

variable {S0 : St} {g0 : G}

theorem Rel.put {S' : St} {v : AV} {cv : Value} {g' : G} {d : Option Nat} (h : Rel w0 M R S0 g0 S g a w) (hc : Outc w0 M R S g S' v cv w' g') (ht : S'.tmps = S.tmps) : Rel w0 M R S0 g0 (S'.setT d v) g' (a.put d cv) w' :=
  ⟨hc.wrel.setT d v, (h.ext.trans hc.ext).trans (Ext.setT d v), (h.trel.mono hc.ext ht).put hc.val⟩

theorem evalI_does {O : Oracle} {md : Nat → Mode} {io : IOp} {S' : St} (hO : OracleFull P O) (hc : cI P o = some io.op) (hd : io.dst = o.dst) (hR : RdW w0 M R) (h : Rel w0 M R S0 g0 S g a w) (he : evalI O md io S = some S') (K : Act → World → Prop) (Q : Exit → Act → World → Prop)
    (hK : ∀ a' w' g', Rel w0 M R S0 g0 S' g' a' w' → K a' w') : o.wp P a w K Q := by
  unfold evalI at he
  split at he
  · split at he
    · split at he
      · rename_i v S1 hq
        cases he
        refine evalW_does hO hc hR h.wrel h.trel hq K Q fun cv w' g' hout => ?_
        rw [← hd]
        exact hK _ _ g' (h.put hout (evalW_tmps hq))
      · cases he
    · cases he
  · split at he
    rotate_left
    · cases he
    split at he
    · rename_i v n hq
      split at he
      · rename_i S1 hn
        cases he
        refine evalQ_does hO hc hR h.wrel h.trel hq hn K Q fun cv w' g' hout => ?_
        rw [← hd]
        exact hK _ _ g' (h.put hout (addNews_tmps hn).1)
      · cases he
    · cases he

theorem guard_ok {cell : Addr → Option Value} {ops : Array Oper} {t : Bool} (hT : TRel S g cell a) (h : guardOf S (o.guard.map fun g => ((ops[g.1]?).bind (·.dst), g.2)) = some t) : Region.wanted o (yielded ops a.tmps) = t := by
  unfold Region.wanted
  cases hg : o.guard with
  | none => rw [hg] at h; simp [guardOf] at h; simp [h]
  | some p =>
    obtain ⟨j, want⟩ := p
    rw [hg] at h
    simp only [Option.map_some] at h
    simp only [yielded]
    cases hb : (ops[j]?).bind (·.dst) with
    | none => rw [hb] at h; simp [guardOf] at h; simp [h]
    | some d =>
      rw [hb] at h
      simp only [guardOf] at h
      split at h
      · rename_i b hd
        cases h
        have h1 := (hT.val d _ hd).bool_inv
        have hlt : d < a.tmps.size := by rw [hT.size]; exact (List.getElem?_eq_some_iff.1 hd).1
        have : a.tmps[d]? = some (.bool b) := by
          simp only [Array.getD_eq_getD_getElem?, Array.getElem?_eq_getElem hlt, Option.getD_some] at h1
          rw [Array.getElem?_eq_getElem hlt, h1]
        simp [this]
      · rename_i hd
        cases h
        have h1 := (hT.val d _ hd).skp_inv
        have hlt : d < a.tmps.size := by rw [hT.size]; exact (List.getElem?_eq_some_iff.1 hd).1
        have : a.tmps[d]? = some undef := by
          simp only [Array.getD_eq_getD_getElem?, Array.getElem?_eq_getElem hlt, Option.getD_some] at h1
          rw [Array.getElem?_eq_getElem hlt, h1]
        simp [this, undef]
      · cases h

theorem evalOp_wp {O : Oracle} {md : Nat → Mode} {io : IOp} {ops : Array Oper} {rid i : Nat} {S' : St} (hO : OracleFull P O) (ho : ops[i]? = some o) (hc : cOp P ops rid i o = some io.bare) (hR : RdW w0 M R) (h : Rel w0 M R S0 g0 S g a w) (he : evalOp O md io S = some S') (K : Act → World → Prop) (Q : Exit → Act → World → Prop)
    (hK : ∀ a' w' g', Rel w0 M R S0 g0 S' g' a' w' → K a' w') : wpOp P ops Q i K a w := by
  unfold cOp at hc
  split at hc
  · rename_i op hop
    simp only [Option.some.injEq, IOp.bare] at hc
    have e1 : io.dst = o.dst := (congrArg IOp.dst hc).symm
    have e2 : io.op = op := (congrArg IOp.op hc).symm
    have e3 : io.g = o.guard.map fun g => ((ops[g.1]?).bind (·.dst), g.2) := (congrArg IOp.g hc).symm
    unfold evalOp at he
    rw [e3] at he
    unfold wpOp
    simp only [ho]
    split at he
    · rename_i hg
      rw [guard_ok h.trel hg, if_pos rfl]
      exact .inl (evalI_does hO (by rw [e2]; exact hop) e1 hR h he K Q hK)
    · rename_i hg
      rw [guard_ok h.trel hg, if_neg (by simp)]
      cases he
      refine hK _ _ g ⟨h.wrel.setT _ _, h.ext.trans (Ext.setT _ _), ?_⟩
      rw [← e1]
      exact h.trel.put .skp
    · cases he
  · cases hc

theorem evalOps_wp {O : Oracle} {md : Nat → Mode} {ops : Array Oper} {rid : Nat} (hO : OracleFull P O) (hR : RdW w0 M R) (Q : Exit → Act → World → Prop) : ∀ (l : List Oper) (i : Nat) (ios : List IOp) (S : St) (g : G) (a : Act) (w : World) (S' : St), (∀ j x, l[j]? = some x → ops[i + j]? = some x) → cOps P ops rid i l = some (ios.map IOp.bare) →
    Rel w0 M R S0 g0 S g a w → evalOps O md ios S = some S' → (∀ a' w' g', Rel w0 M R S0 g0 S' g' a' w' → Q .normal a' w') → wpOps P ops Q (List.range' i l.length) a w
  | [], i, ios, S, g, a, w, S', hl, hc, h, he, hQ => by
    simp only [cOps, Option.some.injEq] at hc
    have : ios = [] := by cases ios <;> simp at hc <;> rfl
    subst this
    simp only [evalOps, Option.some.injEq] at he
    subst he
    simp only [List.length_nil, List.range'_zero, wpOps]
    exact hQ _ _ g h
  | o :: r, i, ios, S, g, a, w, S', hl, hc, h, he, hQ => by
    simp only [cOps] at hc
    split at hc
    · rename_i op rest h1 h2
      simp only [Option.some.injEq] at hc
      cases ios with
      | nil => simp at hc
      | cons io ios =>
        simp only [List.map_cons, List.cons.injEq] at hc
        obtain ⟨rfl, rfl⟩ := hc
        simp only [evalOps] at he
        split at he
        · rename_i S1 hS1
          rw [List.length_cons, List.range'_succ, wpOps_cons]
          refine evalOp_wp hO (by simpa using hl 0 o (by simp)) h1 hR h hS1 _ Q fun a' w' g' h' => ?_
          exact evalOps_wp hO hR Q r (i + 1) ios S1 g' a' w' S' (fun j x hj => by
            have := hl (j + 1) x (by simpa using hj)
            rwa [show i + 1 + j = i + (j + 1) by omega]) h2 h' he hQ
        · cases he
    · cases hc

theorem evalOps_wp_rest {O : Oracle} {md : Nat → Mode} {ops : Array Oper} {rid : Nat} (hO : OracleFull P O) (hR : RdW w0 M R) (Q : Exit → Act → World → Prop) (rest : List Nat) : ∀ (l : List Oper) (i : Nat) (ios : List IOp) (S : St) (g : G) (a : Act) (w : World) (S' : St), (∀ j x, l[j]? = some x → ops[i + j]? = some x) → cOps P ops rid i l = some (ios.map IOp.bare) →
    Rel w0 M R S0 g0 S g a w → evalOps O md ios S = some S' → (∀ a' w' g', Rel w0 M R S0 g0 S' g' a' w' → wpOps P ops Q rest a' w') → wpOps P ops Q (List.range' i l.length ++ rest) a w
  | [], i, ios, S, g, a, w, S', hl, hc, h, he, hQ => by
    simp only [cOps, Option.some.injEq] at hc
    have : ios = [] := by cases ios <;> simp at hc <;> rfl
    subst this
    simp only [evalOps, Option.some.injEq] at he
    subst he
    simp only [List.length_nil, List.range'_zero, List.nil_append]
    exact hQ _ _ g h
  | o :: r, i, ios, S, g, a, w, S', hl, hc, h, he, hQ => by
    simp only [cOps] at hc
    split at hc
    · rename_i op rest' h1 h2
      simp only [Option.some.injEq] at hc
      cases ios with
      | nil => simp at hc
      | cons io ios =>
        simp only [List.map_cons, List.cons.injEq] at hc
        obtain ⟨rfl, rfl⟩ := hc
        simp only [evalOps] at he
        split at he
        · rename_i S1 hS1
          rw [List.length_cons, List.range'_succ, List.cons_append, wpOps_cons]
          refine evalOp_wp hO (by simpa using hl 0 o (by simp)) h1 hR h hS1 _ Q fun a' w' g' h' => ?_
          exact evalOps_wp_rest hO hR Q rest r (i + 1) ios S1 g' a' w' S' (fun j x hj => by
            have := hl (j + 1) x (by simpa using hj)
            rwa [show i + 1 + j = i + (j + 1) by omega]) h2 h' he hQ
        · cases he
    · cases hc

theorem region_wp {O : Oracle} {md : Nat → Mode} {ops : Array Oper} {id : Nat} {ios : List IOp} {S' : St} {Q : Exit → Act → World → Prop} (hO : OracleFull P O) (hR : RdW w0 M R) (hc : cOps P ops id 0 ops.toList = some (ios.map IOp.bare)) (h : Rel w0 M R S0 g0 S g a w) (he : evalOps O md ios S = some S')
    (hQ : ∀ a' w' g', Rel w0 M R S0 g0 S' g' a' w' → Q .normal a' w') : (Code.region id ops false).wp P Q a w := by
  refine wp_region ?_
  have := evalOps_wp hO hR Q ops.toList 0 ios S g a w S' (fun j x hj => by simpa using hj) hc h he hQ
  rwa [Array.length_toList, ← List.range_eq_range'] at this
end
end Go.Ae
