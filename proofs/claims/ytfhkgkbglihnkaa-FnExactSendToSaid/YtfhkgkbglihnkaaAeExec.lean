/- The evaluator's run of a function's text is the machine's. -/
import Derived.Test.YtfhkgkbglihnkaaAeClean
namespace Go.Ae
open Go.RowKit
set_option linter.unusedVariables false
set_option linter.unusedSimpArgs false
section
variable {P : Program} {w w' w0 : World} {M : Nat → Nat → Path → Option Nat} {R : Nat → Prop} {S : St} {g : G} {a : Act} {S0 : St} {g0 : G}

def Ex.out : Ex → Exit
  | .normal => .normal
  | .exit id => .exit id
  | .ret => .ret

/-- What a region of no given order comes to. -/
def DrawWp (P : Program) (md : Nat → Mode) (O : Oracle) (w0 : World) (M : Nat → Nat → Path → Option Nat) (R : Nat → Prop) (S0 : St) (g0 : G) : Prop :=
  ∀ (id : Nat) (ops : Array Oper) (l : List IOp) (b : List Nat) (S : St) (g : G) (a : Act) (w : World) (S' : St) (Q : Exit → Act → World → Prop), cIxs P ops id l → preAll ops.toList [] = b → drawOk md b l = true → coverOk ops.size b l = true →
    Rel w0 M R S0 g0 S g a w → evalOps O md l S = some S' → (∀ a' w' g', Rel w0 M R S0 g0 S' g' a' w' → Q .normal a' w') → (Code.region id ops true).wp P Q a w

theorem least {p : Nat → Prop} (h : ∃ n, p n) : ∃ n, p n ∧ ∀ m, p m → n ≤ m := by
  obtain ⟨n, hn⟩ := h
  induction n using Nat.strongRecOn with
  | _ n ih =>
    by_cases hh : ∃ m, m < n ∧ p m
    · obtain ⟨m, h1, h2⟩ := hh; exact ih m h1 h2
    · exact ⟨n, hn, fun m hm => by
        rcases Nat.lt_or_ge m n with h | h
        · exact absurd ⟨m, h, hm⟩ hh
        · exact h⟩

/-- A loop's rounds: so many. -/
theorem loop_rounds {c : Code} {J : Nat → Act → World → Prop} {Q : Exit → Act → World → Prop} {n : Nat} (h : J n a w) (round : ∀ n a w, J n a w → c.wp P (Exit.then (fun a' w' => ∃ m, m < n ∧ J m a' w') Q) a w) : (Code.loop c).wp P Q a w := by
  classical
  let μ : Act → World → Nat := fun a w => if h : ∃ n, J n a w then Classical.choose (least h) else 0
  refine wp_loop (fun a w => ∃ n, J n a w) μ ⟨n, h⟩ fun a w hJ => ?_
  have hμ : μ a w = Classical.choose (least hJ) := by simp only [μ]; rw [dif_pos hJ]
  obtain ⟨k1, k2⟩ := Classical.choose_spec (least hJ)
  refine wp_mono (round _ a w k1) fun e a' w' he => ?_
  cases e with
  | normal =>
    obtain ⟨m, hm, hJm⟩ := he
    refine ⟨⟨m, hJm⟩, ?_⟩
    have hex : ∃ n, J n a' w' := ⟨m, hJm⟩
    have : μ a' w' = Classical.choose (least hex) := by simp only [μ]; rw [dif_pos hex]
    rw [this, hμ]
    exact Nat.lt_of_le_of_lt ((Classical.choose_spec (least hex)).2 m hJm) hm
  | _ => exact he

theorem exec_wp {md : Nat → Mode} {O : Oracle} (hO : OracleFull P O) (hR : RdW w0 M R) (h0 : S0.loc = []) (hD : DrawWp P md O w0 M R S0 g0) {c : Code} {x : C} (hs : Same P md c x) :
    ∀ (S : St) (g : G) (a : Act) (w : World) (e : Ex) (S' : St) (Q : Exit → Act → World → Prop), Rel w0 M R S0 g0 S g a w → exec O md x S = some (e, S') → (∀ a' w' g', Rel w0 M R S0 g0 S' g' a' w' → Q e.out a' w') → c.wp P Q a w := by
  induction hs with
  | skip =>
    intro S g a w e S' Q h he hQ
    simp only [exec, Option.some.injEq, Prod.mk.injEq] at he
    obtain ⟨rfl, rfl⟩ := he
    exact wp_skip (hQ _ _ g h)
  | plain hc =>
    intro S g a w e S' Q h he hQ
    simp only [exec] at he
    split at he
    · rename_i S1 hS1
      cases he
      exact region_wp hO hR hc h hS1 hQ
    · cases he
  | draw h1 hb h2 h3 =>
    intro S g a w e S' Q h he hQ
    simp only [exec] at he
    split at he
    · rename_i S1 hS1
      cases he
      exact hD _ _ _ _ S g a w _ Q h1 hb h2 h3 h hS1 hQ
    · cases he
  | seq ha hb iha ihb =>
    intro S g a w e S' Q h he hQ
    simp only [exec] at he
    split at he
    · rename_i S1 hS1
      refine wp_seq (iha S g a w .normal S1 _ h hS1 fun a1 w1 g1 h1 => ?_)
      exact ihb S1 g1 a1 w1 e S' Q h1 he hQ
    · rename_i r hr
      refine wp_seq (iha S g a w e S' _ h he fun a1 w1 g1 h1 => ?_)
      cases e with
      | normal => exact absurd he (hr S')
      | exit id => exact hQ a1 w1 g1 h1
      | ret => exact hQ a1 w1 g1 h1
  | cond hx ha hb iha ihb =>
    intro S g a w e S' Q h he hQ
    have hv := evalX_rel (S := S) (g := g) (cell := stab w0 R) hx h.trel
    simp only [exec] at he
    split at he
    · rename_i hb1
      rw [hb1] at hv
      exact wp_cond_true hv.bool_inv (iha S g a w e S' Q h he hQ)
    · rename_i hb1
      rw [hb1] at hv
      exact wp_cond_false hv.bool_inv (ihb S g a w e S' Q h he hQ)
    · cases he
  | block ha iha =>
    rename_i id c x
    intro S g a w e S' Q h he hQ
    simp only [exec] at he
    split at he
    · rename_i j S1 hj
      split at he
      · rename_i hji
        cases he
        refine wp_block (iha S g a w (.exit j) _ _ h hj fun a1 w1 g1 h1 => ?_)
        show (if j = id then _ else _)
        rw [if_pos hji]; exact hQ a1 w1 g1 h1
      · rename_i hji
        cases he
        refine wp_block (iha S g a w (.exit j) _ _ h hj fun a1 w1 g1 h1 => ?_)
        show (if j = id then _ else _)
        rw [if_neg hji]; exact hQ a1 w1 g1 h1
    · rename_i r hr
      refine wp_block (iha S g a w e S' _ h he fun a1 w1 g1 h1 => ?_)
      cases e with
      | normal => exact hQ a1 w1 g1 h1
      | exit j => exact absurd he (hr j S')
      | ret => exact hQ a1 w1 g1 h1
  | loop ha iha =>
    rename_i kt ks c x
    intro S g a w e S' Q h he hQ
    simp only [exec] at he
    refine loop_rounds (J := fun n a w => ∃ S g, Rel w0 M R S0 g0 S g a w ∧ iter (St.clean kt ks) (exec O md x) n S = some (e, S')) ⟨S, g, h, he⟩ fun n a w hJ => ?_
    obtain ⟨S1, g1, h1, hit⟩ := hJ
    cases n with
    | zero => simp [iter] at hit
    | succ n =>
      simp only [iter] at hit
      have hcl := h1.clean h0 kt ks
      split at hit
      · rename_i S2 hS2
        exact iha _ _ a w .normal S2 _ hcl hS2 fun a2 w2 g2 h2 => ⟨n, Nat.lt_succ_self n, S2, g2, h2, hit⟩
      · rename_i r hr
        refine iha _ _ a w e S' _ hcl hit fun a2 w2 g2 h2 => ?_
        cases e with
        | normal => exact absurd hit (hr S')
        | exit j => exact hQ a2 w2 g2 h2
        | ret => exact hQ a2 w2 g2 h2
  | exit =>
    intro S g a w e S' Q h he hQ
    simp only [exec, Option.some.injEq, Prod.mk.injEq] at he
    obtain ⟨rfl, rfl⟩ := he
    exact wp_exit (hQ _ _ g h)
  | ret =>
    intro S g a w e S' Q h he hQ
    simp only [exec, Option.some.injEq, Prod.mk.injEq] at he
    obtain ⟨rfl, rfl⟩ := he
    exact wp_ret (hQ _ _ g h)
end
end Go.Ae
