/- A call, as deep as one likes. -/
import Derived.Test.YtgmfljabhcamlaaAeReturn
namespace Go.Ae
open Go.RowKit
set_option linter.unusedVariables false
set_option linter.unusedSimpArgs false
section
variable {P : Program} {w w' w0 : World} {M : Nat → Nat → Path → Option Nat} {R : Nat → Prop} {S : St} {g : G} {a : Act} {S0 : St} {g0 : G}

theorem Ext.sameHeap {S' : St} (h : ∀ lv, S'.heap lv = S.heap lv) : Ext S g S' g := fun lv s ob hob => ⟨ob, by rw [h]; exact hob, fun b' hb => ⟨b', hb, Nat.le_refl _, fun _ => ⟨rfl, fun p ys h => ⟨ys, h, Nat.le_refl _, rfl, rfl, fun _ _ => rfl⟩⟩⟩⟩
theorem WRel.sameHeap {S' : St} (hs : ∀ lv, S'.heap lv = S.heap lv) (h : WRel w0 M R S g w) : WRel w0 M R S' g w where
  os := h.os
  tape := h.tape
  output := h.output
  size := h.size
  keep := h.keep
  rng := h.rng
  fresh := h.fresh
  ext := h.ext
  inj := h.inj
  cont := fun lv s b p ys hb hn => (h.cont lv s b p ys (by unfold St.blk at hb ⊢; rw [← hs]; exact hb) hn).mono (Ext.sameHeap hs) (fun _ => rfl) (fun B hB => ⟨rfl, rfl⟩)

theorem start_rel {args : List AV} {E : List Heap} {cargs : Array Value} {n : Nat} (hW : WRel w0 M R ⟨args, [], E⟩ g w) (hv : VRels ⟨args, [], E⟩ g (stab w0 R) args cargs) :
    Rel w0 M R ⟨args, [], E⟩ g ⟨args ++ List.replicate (n - args.length) .skp, [], E⟩ g { tmps := cargs ++ Array.replicate (n - cargs.size) undef, defers := [] } w := by
  have hs : ∀ lv, (⟨args ++ List.replicate (n - args.length) .skp, [], E⟩ : St).heap lv = (⟨args, [], E⟩ : St).heap lv := fun lv => by cases lv <;> rfl
  have hE : Ext ⟨args, [], E⟩ g ⟨args ++ List.replicate (n - args.length) .skp, [], E⟩ g := Ext.sameHeap hs
  refine ⟨hW.sameHeap hs, hE, ⟨by simp [hv.1], fun i v hi => ?_, rfl⟩⟩
  by_cases hlt : i < args.length
  · rw [List.getElem?_append_left hlt] at hi
    have := hv.2 i v hi
    have e : (cargs ++ Array.replicate (n - cargs.size) undef).getD i undef = cargs.getD i undef := by
      have : i < cargs.size := by rw [← hv.1]; exact hlt
      simp [Array.getElem?_append_left this]
    show VRel _ _ _ _ ((cargs ++ Array.replicate (n - cargs.size) undef).getD i undef)
    rw [e]; exact this.mono hE
  · rw [List.getElem?_append_right (by omega), List.getElem?_replicate] at hi
    split at hi
    · rename_i h2
      cases hi
      have e : (cargs ++ Array.replicate (n - cargs.size) undef).getD i undef = undef := by
        have h1 := hv.1
        have h3 : i - cargs.size < n - cargs.size := by omega
        simp [Array.getElem?_append_right (show cargs.size ≤ i by omega), h3]
      show VRel _ _ _ _ ((cargs ++ Array.replicate (n - cargs.size) undef).getD i undef)
      rw [e]; exact .skp
    · cases hi

theorem runF_ok {md : Nat → Mode} {O : Oracle} (hO : OracleFull P O) (hD : ∀ (w0 : World) (M : Nat → Nat → Path → Option Nat) (R : Nat → Prop) (S0 : St) (g0 : G), RdW w0 M R → DrawWp P md O w0 M R S0 g0) {f : Nat} {fn : Func} {F : F} {args : List AV} {E : List Heap} {r : Res}
    (hf : P.funcs[f]? = some fn) (hok : FOk P md fn F) (he : runF O md F args E = some r) : CallOk P f args E r := by
  intro w R g cargs hR hθ hW hv
  obtain ⟨c, hb, hsame⟩ := hok.body
  unfold runF at he
  split at he
  · rename_i hnp
    have hstart := start_rel (n := F.ntmps) hW hv
    split at he
    · rename_i p l hex
      split at he
      · rename_i r' hfin
        split at he
        · rename_i hall
          cases he
          have each : ∀ q ∈ p :: l, finOf F.res q = some r := fun q hq => by
            rcases List.mem_cons.1 hq with rfl | hq
            · exact hfin
            · exact hall q hq
          refine calls_of_wp hf hb ?_
          rw [hok.tmps]
          refine execs_wp hO hR rfl (hD w g.θ R _ g hR) hsame _ g _ w (p :: l) _ hstart hex fun q hq a' w' g' h' => ?_
          have hfq := each q hq
          obtain ⟨e, S'⟩ := q
          have hne : ∀ j, e ≠ .exit j := fun j hj => by rw [hj] at hfq; simp [finOf] at hfq
          have hvs : ∃ vs, evalRVs S' F.res = some vs ∧ finish S' (valOf vs) = some r := by
            have hfq' : (match evalRVs S' F.res with | some [v] => finish S' v | some vs => finish S' (.tup vs) | none => none) = some r := by
              cases e with
              | exit j => exact absurd rfl (hne j)
              | normal => exact hfq
              | ret => exact hfq
            split at hfq'
            · rename_i v hv; exact ⟨_, hv, hfq'⟩
            · rename_i vs hnn hv
              refine ⟨vs, hv, ?_⟩
              unfold valOf
              split
              · exact absurd rfl (hnn _)
              · exact hfq'
            · cases hfq'
          obtain ⟨vs, e1, e2⟩ := hvs
          obtain ⟨cv, k1, k2⟩ := results_ok (P := P) h' hok.res e1
          obtain ⟨g2, q1, q2, q3⟩ := finish_ok h'.wrel h'.ext rfl k2 e2
          have : a'.defers = [] ∧ ∃ v, (results fn a'.tmps).run P w' = .ok v w' ∧ ∃ cv g', Ending.returned v = .returned cv ∧ WRel w g.θ R (resSt r) g' w' ∧ Ext ⟨args, [], E⟩ g (resSt r) g' ∧ VRel (resSt r) g' (stab w R) r.val cv :=
            ⟨h'.trel.defers, cv, k1, cv, g2, rfl, q1, q2, q3⟩
          cases e with
          | normal => exact this
          | ret => exact this
          | exit j => exact absurd rfl (hne j)
        · cases he
      · cases he
    · cases he
  · cases he

structure ProgOk (P : Program) (p : Prog) : Prop where
  fn : ∀ f F, p.nat f = none → p.fn f = some F → ∃ fn, P.funcs[f]? = some fn ∧ FOk P p.md fn F ∧ (fn.name == "runtime.NumGoroutine") = false
  nat : ∀ f h args E v bs, p.nat f = some h → h args = some (v, bs) → Enters P f ∧ CallOk P f args E ⟨v, bs, E⟩

theorem call_full {p : Prog} (hp : ProgOk P p) (hD : ∀ (O : Oracle) (w0 : World) (M : Nat → Nat → Path → Option Nat) (R : Nat → Prop) (S0 : St) (g0 : G), OracleFull P O → RdW w0 M R → DrawWp P p.md O w0 M R S0 g0) : ∀ n, OracleFull P (call p n)
  | 0 => ⟨fun f args E r h => by simp [call] at h, fun f args E r h => by simp [call] at h⟩
  | n + 1 => by
    have ih := call_full hp hD n
    have both : ∀ f args E r, call p (n + 1) f args E = some r → Enters P f ∧ CallOk P f args E r := fun f args E r h => by
      simp only [call] at h
      split at h
      · rename_i nat hnat
        split at h
        · rename_i v bs hv
          cases h
          exact hp.nat f nat args E v bs hnat hv
        · cases h
      · rename_i hnat
        split at h
        · rename_i F hF
          obtain ⟨fn, h1, h2, h3⟩ := hp.fn f F hnat hF
          obtain ⟨c, hb, _⟩ := h2.body
          exact ⟨⟨fn, h1, h3, by rw [hb]; rfl⟩, runF_ok ih (fun w0 M R S0 g0 => hD _ w0 M R S0 g0 ih) h1 h2 h⟩
        · cases h
    exact ⟨fun f args E r h => (both f args E r h).2, fun f args E r h => (both f args E r h).1⟩
end
end Go.Ae
