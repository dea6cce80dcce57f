/- The evaluator's run of a function's text is the machine's. -/
import Derived.Test.YtgmfljabhcamlaaAeClean
namespace Go.Ae
open Go.RowKit
set_option linter.unusedVariables false
set_option linter.unusedSimpArgs false
section
variable {P : Program} {w w' w0 : World} {M : Nat → Nat → Path → Option Nat} {R : Nat → Prop} {S : St} {g : G} {a : Act} {S0 : St} {g0 : G}

def Ex.out : Ex → Exit
  | .normal => .normal
  | .exit id => .exit id
  | .ret => .ret

/-- What a region of no given order comes to. -/
def DrawWp (P : Program) (md : Nat → Mode) (O : Oracle) (w0 : World) (M : Nat → Nat → Path → Option Nat) (R : Nat → Prop) (S0 : St) (g0 : G) : Prop :=
  ∀ (id : Nat) (ops : Array Oper) (l : List IOp) (b : List Nat) (S : St) (g : G) (a : Act) (w : World) (S' : St) (Q : Exit → Act → World → Prop), cIxs P ops id l → preAll ops.toList [] = b → drawOk md b l = true → coverOk ops.size b l = true →
    Rel w0 M R S0 g0 S g a w → evalOps O md l S = some S' → (∀ a' w' g', Rel w0 M R S0 g0 S' g' a' w' → Q .normal a' w') → (Code.region id ops true).wp P Q a w

theorem least {p : Nat → Prop} (h : ∃ n, p n) : ∃ n, p n ∧ ∀ m, p m → n ≤ m := by
  obtain ⟨n, hn⟩ := h
  induction n using Nat.strongRecOn with
  | _ n ih =>
    by_cases hh : ∃ m, m < n ∧ p m
    · obtain ⟨m, h1, h2⟩ := hh; exact ih m h1 h2
    · exact ⟨n, hn, fun m hm => by
        rcases Nat.lt_or_ge m n with h | h
        · exact absurd ⟨m, h, hm⟩ hh
        · exact h⟩

/-- A loop's rounds: so many. -/
theorem loop_rounds {c : Code} {J : Nat → Act → World → Prop} {Q : Exit → Act → World → Prop} {n : Nat} (h : J n a w) (round : ∀ n a w, J n a w → c.wp P (Exit.then (fun a' w' => ∃ m, m < n ∧ J m a' w') Q) a w) : (Code.loop c).wp P Q a w := by
  classical
  let μ : Act → World → Nat := fun a w => if h : ∃ n, J n a w then Classical.choose (least h) else 0
  refine wp_loop (fun a w => ∃ n, J n a w) μ ⟨n, h⟩ fun a w hJ => ?_
  have hμ : μ a w = Classical.choose (least hJ) := by simp only [μ]; rw [dif_pos hJ]
  obtain ⟨k1, k2⟩ := Classical.choose_spec (least hJ)
  refine wp_mono (round _ a w k1) fun e a' w' he => ?_
  cases e with
  | normal =>
    obtain ⟨m, hm, hJm⟩ := he
    refine ⟨⟨m, hJm⟩, ?_⟩
    have hex : ∃ n, J n a' w' := ⟨m, hJm⟩
    have : μ a' w' = Classical.choose (least hex) := by simp only [μ]; rw [dif_pos hex]
    rw [this, hμ]
    exact Nat.lt_of_le_of_lt ((Classical.choose_spec (least hex)).2 m hJm) hm
  | _ => exact he

theorem exec_wp {md : Nat → Mode} {O : Oracle} (hO : OracleFull P O) (hR : RdW w0 M R) (h0 : S0.loc = []) (hD : DrawWp P md O w0 M R S0 g0) {c : Code} {x : C} (hs : Same P md c x) :
    ∀ (S : St) (g : G) (a : Act) (w : World) (e : Ex) (S' : St) (Q : Exit → Act → World → Prop), Rel w0 M R S0 g0 S g a w → exec O md x S = some (e, S') → (∀ a' w' g', Rel w0 M R S0 g0 S' g' a' w' → Q e.out a' w') → c.wp P Q a w := by
  induction hs with
  | skip =>
    intro S g a w e S' Q h he hQ
    simp only [exec, Option.some.injEq, Prod.mk.injEq] at he
    obtain ⟨rfl, rfl⟩ := he
    exact wp_skip (hQ _ _ g h)
  | plain hc =>
    intro S g a w e S' Q h he hQ
    simp only [exec] at he
    split at he
    · rename_i S1 hS1
      cases he
      exact region_wp hO hR hc h hS1 hQ
    · cases he
  | draw h1 hb h2 h3 =>
    intro S g a w e S' Q h he hQ
    simp only [exec] at he
    split at he
    · rename_i S1 hS1
      cases he
      exact hD _ _ _ _ S g a w _ Q h1 hb h2 h3 h hS1 hQ
    · cases he
  | seq ha hb iha ihb =>
    intro S g a w e S' Q h he hQ
    simp only [exec] at he
    split at he
    · rename_i S1 hS1
      refine wp_seq (iha S g a w .normal S1 _ h hS1 fun a1 w1 g1 h1 => ?_)
      exact ihb S1 g1 a1 w1 e S' Q h1 he hQ
    · rename_i r hr
      refine wp_seq (iha S g a w e S' _ h he fun a1 w1 g1 h1 => ?_)
      cases e with
      | normal => exact absurd he (hr S')
      | exit id => exact hQ a1 w1 g1 h1
      | ret => exact hQ a1 w1 g1 h1
  | cond hx ha hb iha ihb =>
    intro S g a w e S' Q h he hQ
    have hv := evalX_rel (S := S) (g := g) (cell := stab w0 R) hx h.trel
    simp only [exec] at he
    split at he
    · rename_i hb1
      rw [hb1] at hv
      exact wp_cond_true hv.bool_inv (iha S g a w e S' Q h he hQ)
    · rename_i hb1
      rw [hb1] at hv
      exact wp_cond_false hv.bool_inv (ihb S g a w e S' Q h he hQ)
    · cases he
  | block ha iha =>
    rename_i id c x
    intro S g a w e S' Q h he hQ
    simp only [exec] at he
    split at he
    · rename_i j S1 hj
      split at he
      · rename_i hji
        cases he
        refine wp_block (iha S g a w (.exit j) _ _ h hj fun a1 w1 g1 h1 => ?_)
        show (if j = id then _ else _)
        rw [if_pos hji]; exact hQ a1 w1 g1 h1
      · rename_i hji
        cases he
        refine wp_block (iha S g a w (.exit j) _ _ h hj fun a1 w1 g1 h1 => ?_)
        show (if j = id then _ else _)
        rw [if_neg hji]; exact hQ a1 w1 g1 h1
    · rename_i r hr
      refine wp_block (iha S g a w e S' _ h he fun a1 w1 g1 h1 => ?_)
      cases e with
      | normal => exact hQ a1 w1 g1 h1
      | exit j => exact absurd he (hr j S')
      | ret => exact hQ a1 w1 g1 h1
  | loop ha iha =>
    rename_i kt ks c x
    intro S g a w e S' Q h he hQ
    simp only [exec] at he
    refine loop_rounds (J := fun n a w => ∃ S g, Rel w0 M R S0 g0 S g a w ∧ iter (St.clean kt ks) (exec O md x) n S = some (e, S')) ⟨S, g, h, he⟩ fun n a w hJ => ?_
    obtain ⟨S1, g1, h1, hit⟩ := hJ
    cases n with
    | zero => simp [iter] at hit
    | succ n =>
      simp only [iter] at hit
      have hcl := h1.clean h0 kt ks
      split at hit
      · rename_i S2 hS2
        exact iha _ _ a w .normal S2 _ hcl hS2 fun a2 w2 g2 h2 => ⟨n, Nat.lt_succ_self n, S2, g2, h2, hit⟩
      · rename_i r hr
        refine iha _ _ a w e S' _ hcl hit fun a2 w2 g2 h2 => ?_
        cases e with
        | normal => exact absurd hit (hr S')
        | exit j => exact hQ a2 w2 g2 h2
        | ret => exact hQ a2 w2 g2 h2
  | exit =>
    intro S g a w e S' Q h he hQ
    simp only [exec, Option.some.injEq, Prod.mk.injEq] at he
    obtain ⟨rfl, rfl⟩ := he
    exact wp_exit (hQ _ _ g h)
  | ret =>
    intro S g a w e S' Q h he hQ
    simp only [exec, Option.some.injEq, Prod.mk.injEq] at he
    obtain ⟨rfl, rfl⟩ := he
    exact wp_ret (hQ _ _ g h)
  | ifnil hlast h ho hop hx hu hd hg ha hb iha ihb =>
    intro S g a w e S' Q h' he hQ
    simp only [exec] at he
    split at he
    · cases he
    · rename_i r hr
      split at he
      · rename_i S1 hS1
        exact absurd (by rw [hS1]) (hr S1)
      · cases he
theorem slice_inv {cell : Addr → Option Value} {v : AV} {cv : Value} (h : VRel S g cell v cv) (hs : v.slice = true) : ∃ A l c, cv = .slice A l c := by
  cases h with
  | nil => exact ⟨_, _, _, rfl⟩
  | rd fl xs v h => cases h; exact ⟨_, _, _, rfl⟩
  | sl lv s ver p off len v hk hv h => exact hv
  | _ => simp [AV.slice] at hs

theorem nonNil_inv {cell : Addr → Option Value} {v : AV} {A : Option Addr} {l c : Nat} (h : VRel S g cell v (.slice A l c)) (hn : nonNil S v = true) : A ≠ none := by
  cases v with
  | rd fl xs =>
    cases xs with
    | nil => simp [nonNil] at hn
    | cons r xs =>
      cases r with
      | nil => simp [nonNil] at hn
      | cons u r =>
        cases h with
        | rd _ _ _ h =>
          cases h with
          | rd _ _ _ _ sz cv h2 hsz hfl hc hr =>
            obtain ⟨a, h3, _⟩ := hc 0 0 u (by simp [cellAt])
            rw [h3]; simp
  | sl lv s ver p off len =>
    simp only [nonNil, Bool.and_eq_true, decide_eq_true_eq] at hn
    obtain ⟨⟨b, ys⟩, hat⟩ := Option.isSome_iff_exists.1 hn.2
    cases h with
    | sl _ _ _ _ _ _ _ hk hv h =>
      obtain ⟨A', cap, h1, h2, h3, h4⟩ := h b ys hat
      cases h1
      intro hA
      subst hA
      split at h4
      · rcases h4.1 with h5 | h5
        · omega
        · cases h5
      · omega
  | _ => simp [nonNil] at hn

theorem goes_isnil {o : Oper} {op : BinOp} {t ty e : TypeId} {x : Operand} {A : Option Addr} {l c : Nat} {neg : Bool} (hop : op = .eql ∧ neg = false ∨ op = .neq ∧ neg = true) (ho : o.op = .binOp op t x (.const (.slice none 0 0)) ty) (hu : P.underlying t = some (.slice e)) (hv : a.eval x = .slice A l c) :
    ∃ r : Bool, (execOp a.eval o).run P w = .ok (.value (.bool r)) w ∧ (A ≠ none → r = neg) := by
  have hc : a.eval (.const (.slice none 0 0)) = .slice none 0 0 := rfl
  have he : (Op.equalIn 10000 t (.slice A l c) (.slice none 0 0)).run P w = .ok A.isNone w := by
    unfold Op.equalIn
    simp only [Sem.run_bind, run_underlying hu, Result.andThen_ok]
    cases A <;> rfl
  rcases hop with ⟨rfl, rfl⟩ | ⟨rfl, rfl⟩
  · refine ⟨A.isNone, ?_, fun h => by cases A with | none => exact absurd rfl h | some a => rfl⟩
    refine run_of_value (s := do eqGuard .eql t x (.const (.slice none 0 0)) (a.eval x) (a.eval (.const (.slice none 0 0))); binOp .eql t (a.eval x) (a.eval (.const (.slice none 0 0)))) (by unfold execOp; simp only [ho]) ?_
    rw [hc, hv]
    simp only [Sem.run_bind]
    simp [eqGuard, binOp, Op.equal, Op.maxDepth, he]
  · refine ⟨!A.isNone, ?_, fun h => by cases A with | none => exact absurd rfl h | some a => rfl⟩
    refine run_of_value (s := do eqGuard .neq t x (.const (.slice none 0 0)) (a.eval x) (a.eval (.const (.slice none 0 0))); binOp .neq t (a.eval x) (a.eval (.const (.slice none 0 0)))) (by unfold execOp; simp only [ho]) ?_
    rw [hc, hv]
    simp only [Sem.run_bind]
    simp [eqGuard, binOp, Op.equal, Op.maxDepth, he]

theorem bindAll_mem {α β : Type} {f : α → Option (List β)} : ∀ {l : List α} {m : List β}, bindAll f l = some m → ∀ a ∈ l, ∃ k, f a = some k ∧ ∀ b ∈ k, b ∈ m
  | [], m, _, a, ha => by simp at ha
  | x :: r, m, h, a, ha => by
    simp only [bindAll] at h
    split at h
    · rename_i l' m' h1 h2
      cases h
      rcases List.mem_cons.1 ha with rfl | ha
      · exact ⟨l', h1, fun b hb => List.mem_append_left _ hb⟩
      · obtain ⟨k, h3, h4⟩ := bindAll_mem h2 a ha
        exact ⟨k, h3, fun b hb => List.mem_append_right _ (h4 b hb)⟩
    · cases h

theorem execs_wp {md : Nat → Mode} {O : Oracle} (hO : OracleFull P O) (hR : RdW w0 M R) (h0 : S0.loc = []) (hD : DrawWp P md O w0 M R S0 g0) {c : Code} {x : C} (hs : Same P md c x) :
    ∀ (S : St) (g : G) (a : Act) (w : World) (l : List (Ex × St)) (Q : Exit → Act → World → Prop), Rel w0 M R S0 g0 S g a w → execs O md x S = some l → (∀ p ∈ l, ∀ a' w' g', Rel w0 M R S0 g0 p.2 g' a' w' → Q p.1.out a' w') → c.wp P Q a w := by
  have one : ∀ {c : Code} {x : C}, Same P md c x → ∀ (S : St) (g : G) (a : Act) (w : World) (l : List (Ex × St)) (Q : Exit → Act → World → Prop), Rel w0 M R S0 g0 S g a w → (match exec O md x S with | some p => some [p] | none => none) = some l → (∀ p ∈ l, ∀ a' w' g', Rel w0 M R S0 g0 p.2 g' a' w' → Q p.1.out a' w') → c.wp P Q a w := by
    intro c x hs S g a w l Q h he hQ
    split at he
    · rename_i p hp
      cases he
      exact exec_wp hO hR h0 hD hs S g a w p.1 p.2 Q h hp (hQ p (by simp))
    · cases he
  induction hs with
  | skip => exact one .skip
  | plain hc => exact one (.plain hc)
  | draw h1 hb h2 h3 => exact one (.draw h1 hb h2 h3)
  | loop ha => exact one (.loop ha)
  | exit => exact one .exit
  | ret => exact one .ret
  | seq ha hb iha ihb =>
    intro S g a w l Q h he hQ
    simp only [execs] at he
    split at he
    · rename_i l1 hl1
      refine wp_seq (iha S g a w l1 _ h hl1 fun p hp a1 w1 g1 h1 => ?_)
      obtain ⟨k, k1, k2⟩ := bindAll_mem he p hp
      obtain ⟨e, s⟩ := p
      cases e with
      | normal => exact ihb s g1 a1 w1 k Q h1 k1 fun q hq => hQ q (k2 q hq)
      | exit j => cases k1; exact hQ _ (k2 _ (by simp)) a1 w1 g1 h1
      | ret => cases k1; exact hQ _ (k2 _ (by simp)) a1 w1 g1 h1
    · cases he
  | cond hx ha hb iha ihb =>
    intro S g a w l Q h he hQ
    have hv := evalX_rel (S := S) (g := g) (cell := stab w0 R) hx h.trel
    simp only [execs] at he
    split at he
    · rename_i hb1
      rw [hb1] at hv
      exact wp_cond_true hv.bool_inv (iha S g a w l Q h he hQ)
    · rename_i hb1
      rw [hb1] at hv
      exact wp_cond_false hv.bool_inv (ihb S g a w l Q h he hQ)
    · cases he
  | block ha iha =>
    rename_i id c x
    intro S g a w l Q h he hQ
    simp only [execs] at he
    split at he
    · rename_i l1 hl1
      cases he
      refine wp_block (iha S g a w l1 _ h hl1 fun p hp a1 w1 g1 h1 => ?_)
      have := hQ _ (List.mem_map.2 ⟨p, hp, rfl⟩) a1 w1 g1
      obtain ⟨e, s⟩ := p
      cases e with
      | normal => exact this h1
      | ret => exact this h1
      | exit j =>
        show (if j = id then _ else _)
        by_cases hj : j = id
        · simp only [hj, if_true] at this ⊢; exact this h1
        · simp only [hj, if_false] at this ⊢; exact this h1
    · cases he
  | ifnil hlast h ho hop hx hu hd hg ha hb iha ihb =>
    rename_i id ops l0 o t op tx ty e x xx ca cb p q neg
    intro S g a w l Q hrel he hQ
    have hne : ops.toList ≠ [] := fun h => by rw [h] at hlast; simp at hlast
    have hops : ops.toList = ops.toList.dropLast ++ [o] := by
      rw [List.getLast?_eq_some_getLast hne, Option.some.injEq] at hlast
      rw [← hlast, List.dropLast_concat_getLast]
    generalize ops.toList.dropLast = pre at hops h
    simp only [execs, exec] at he
    cases hS1 : evalOps O md l0 S with
    | none => simp [hS1] at he
    | some S1 =>
      simp only [hS1, bindAll] at he
      by_cases hsl0 : ((evalX S1 xx).slice && decide (t < S1.tmps.length)) = true
      · have hsl : (evalX S1 xx).slice = true := by simp at hsl0; exact hsl0.1
        have hlt1 : t < S1.tmps.length := by simp at hsl0; exact hsl0.2
        simp only [hsl0, if_true] at he
        have hpre : ops.size = pre.length + 1 := by rw [← Array.length_toList, hops]; simp
        have hget : ∀ j y, pre[j]? = some y → ops[0 + j]? = some y := fun j y hj => by
          have : ops.toList[j]? = some y := by rw [hops, List.getElem?_append_left (List.getElem?_eq_some_iff.1 hj).1]; exact hj
          simpa using this
        have ho1 : ops[pre.length]? = some o := by
          have : ops.toList[pre.length]? = some o := by rw [hops]; simp
          simpa using this
        -- what follows the answer, whichever it is
        have both : (∀ r : Bool, (nonNil S1 (evalX S1 xx) = true → r = neg) → ∀ g1 a2 w2, Rel w0 M R S0 g0 (S1.setT (some t) .undef) g1 a2 w2 → (if r then ca.wp P Q a2 w2 else cb.wp P Q a2 w2)) := by
          intro r hr g1 a2 w2 h2
          by_cases hnn : nonNil S1 (evalX S1 xx) = true
          · have := hr hnn
            subst this
            simp only [hnn, if_true] at he
            cases r with
            | true =>
              simp only [if_true] at he ⊢
              cases hA : execs O md p (S1.setT (some t) .undef) with
              | none => simp [hA] at he
              | some lA => simp only [hA, List.append_nil, Option.some.injEq] at he; subst he; exact iha _ g1 _ _ lA Q h2 hA hQ
            | false =>
              simp only [Bool.false_eq_true, if_false] at he ⊢
              cases hB : execs O md q (S1.setT (some t) .undef) with
              | none => simp [hB] at he
              | some lB => simp only [hB, List.append_nil, Option.some.injEq] at he; subst he; exact ihb _ g1 _ _ lB Q h2 hB hQ
          · simp only [hnn] at he
            cases hA : execs O md p (S1.setT (some t) .undef) with
            | none => simp [hA] at he
            | some lA =>
              cases hB : execs O md q (S1.setT (some t) .undef) with
              | none => simp [hA, hB] at he
              | some lB =>
                simp only [hA, hB, List.append_nil, Bool.false_eq_true, if_false, Option.some.injEq] at he
                subst he
                cases r with
                | true => exact iha _ g1 _ _ lA Q h2 hA fun p hp => hQ p (List.mem_append_left _ hp)
                | false => exact ihb _ g1 _ _ lB Q h2 hB fun p hp => hQ p (List.mem_append_right _ hp)
        refine wp_seq (wp_region ?_)
        rw [hpre, List.range_succ, List.range_eq_range']
        -- the prefix, then the question
        have key : ∀ a1 w1 g1, Rel w0 M R S0 g0 S1 g1 a1 w1 → wpOps P ops (Exit.then (fun a' w' => (Code.cond (.tmp t) ca cb).wp P Q a' w') Q) [pre.length] a1 w1 := fun a1 w1 g1 h1 => by
          rw [wpOps_cons]
          unfold wpOp
          simp only [ho1]
          have hw : Region.wanted o (yielded ops a1.tmps) = true := by unfold Region.wanted; rw [hg]
          rw [if_pos hw]
          have hv := evalX_rel (S := S1) (g := g1) (cell := stab w0 R) hx h1.trel
          obtain ⟨A, len, cp, hcv⟩ := slice_inv hv hsl
          obtain ⟨r, hr, hrn⟩ := goes_isnil (P := P) (w := w1) (a := a1) hop ho hu hcv
          refine .inl ?_
          unfold Oper.wp
          rw [hr]
          simp only [Oper.upon, wpOps]
          have h2 : Rel w0 M R S0 g0 (S1.setT (some t) .undef) g1 (a1.put o.dst (.bool r)) w1 := by
            rw [hd]
            exact ⟨h1.wrel.setT _ _, h1.ext.trans (Ext.setT _ _), h1.trel.put (.undef _)⟩
          have hev : ∀ hlt : t < a1.tmps.size, (a1.put o.dst (.bool r)).eval (.tmp t) = .bool r := fun hlt => by
            rw [hd]; simp [Act.eval, Act.put, hlt]
          have hlt : t < a1.tmps.size := by rw [h1.trel.size]; exact hlt1
          have := both r (fun hnn => hrn (by rw [hcv] at hv; exact nonNil_inv hv hnn)) g1 _ _ h2
          cases r with
          | true => exact wp_cond_true (hev hlt) this
          | false => exact wp_cond_false (hev hlt) this
        exact evalOps_wp_rest hO hR _ [pre.length] pre 0 l0 S g a w S1 hget h hrel hS1 key
      · simp [hsl0] at he
end
end Go.Ae
