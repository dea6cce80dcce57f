import Derived.Test.YtgmfljabhcamlaaAeEval2
namespace Go.Ae
open Go.RowKit
set_option linter.unusedVariables false
set_option linter.unusedSimpArgs false
section
variable {P : Program} {w w' w0 : World} {M : Nat → Nat → Path → Option Nat} {R : Nat → Prop} {S : St} {g : G} {a : Act} {o : Oper}

theorem VRels.append {cell : Addr → Option Value} {l l' : List AV} {x y : Array Value} (h : VRels S g cell l x) (k : VRels S g cell l' y) : VRels S g cell (l ++ l') (x ++ y) := by
  refine ⟨by simp [h.1, k.1], fun i v hv => ?_⟩
  by_cases hi : i < l.length
  · rw [List.getElem?_append_left hi] at hv
    have := h.2 i v hv
    rwa [show (x ++ y).getD i undef = x.getD i undef by
      have : i < x.size := by rw [← h.1]; exact hi
      simp [Array.getElem?_append_left this]]
  · rw [List.getElem?_append_right (by omega)] at hv
    have := k.2 _ v hv
    rwa [show (x ++ y).getD i undef = y.getD (i - l.length) undef by
      have h1 := h.1
      simp [Array.getElem?_append_right (show x.size ≤ i by omega), h1]]

theorem evalW_does {O : Oracle} {md : Nat → Mode} {op : I} {v : AV} {base : Nat} {S' : St} (hO : OracleFull P O) (hc : cI P o = some op) (hR : RdW w0 M R) (hW : WRel w0 M R S g w) (hT : TRel S g (stab w0 R) a)
    (hq : evalW O md S base op = some (v, S')) : Does P w0 M R S g a w o S' v := by
  have ref : ∀ {f : Nat} {args : List AV} {cargs : Array Value} {fl : Bool}, callRef O S base f args fl = some (v, S') → VRels S g (stab w0 R) args cargs → (Enters P f → (execOp a.eval o).run P w = .ok (.enter f cargs) w) → Does P w0 M R S g a w o S' v := fun {f args cargs fl} hcall hargs hrun => by
    unfold callRef at hcall
    split at hcall
    · rename_i r hr
      split at hcall
      · cases hcall
      · split at hcall
        · rename_i l e hext
          split at hcall
          · rename_i S1 hn
            cases hcall
            exact call_does (hrun (hO.enters _ _ _ _ hr)) (callRef_ok hO.ok hR hW hargs hr hext hn)
          · cases hcall
        · cases hcall
    · cases hcall
  have val : ∀ {f : Nat} {args : List AV} {cargs : Array Value} {fl : Bool} {n : List (Nat × Blk)}, callVal O S base f args fl = some (v, n) → addNews S n = some S' → VRels S g (stab w0 R) args cargs → (Enters P f → (execOp a.eval o).run P w = .ok (.enter f cargs) w) → Does P w0 M R S g a w o S' v := fun {f args cargs fl n} hcall hn hargs hrun => by
    have hen : Enters P f := by
      unfold callVal at hcall
      split at hcall
      · split at hcall
        · rename_i hr; exact hO.enters _ _ _ _ hr
        · cases hcall
      · cases hcall
    exact call_does (hrun hen) (callVal_ok hO.ok hR hW hargs hcall hn)
  have view : ∀ {f : Nat} {args : List AV} {cargs : Array Value}, callView O S f args = some v → S' = S → VRels S g (stab w0 R) args cargs → (Enters P f → (execOp a.eval o).run P w = .ok (.enter f cargs) w) → Does P w0 M R S g a w o S' v := fun {f args cargs} hcall hS hargs hrun => by
    unfold callView at hcall
    split at hcall
    · rename_i r hr
      split at hcall
      · rename_i hb
        split at hcall
        · rename_i hext
          cases hcall
          have hb' : r.blks = [] := by simpa using hb
          have hn2 : addNews { S with loc := S.loc, ext := S.ext } (numbered 0 (r.blks.map (Blk.mapR (injR 0)))) = some S := by rw [hb']; rfl
          rw [hS]
          exact call_does (hrun (hO.enters _ _ _ _ hr)) (callRef_ok hO.ok hR hW hargs hr hext hn2)
        · cases hcall
      · cases hcall
    · cases hcall
  unfold cI at hc
  split at hc
  case h_9 =>
    -- store
    rename_i t x y ho
    split at hc
    · rename_i x' y' inf hx hy hi
      split at hc
      · rename_i hpos
        cases hc
        exact store_does ho hi rfl hpos hW (evalX_rel hx hT) (evalX_rel hy hT) hq
      · cases hc
    · cases hc
  case h_23 =>
    rename_i c ho
    split at hc
    · rename_i f hcal
      split at hc
      · rename_i xs hxs
        split at hc
        · rename_i hsz
          cases hc
          have hargs := cXs_args (S := S) (g := g) (cell := stab w0 R) hxs hsz hT
          simp only [evalW] at hq
          split at hq
          · exact ref hq hargs fun hen => run_call ho hcal hen
          · cases hq
        · cases hc
      · cases hc
    · rename_i t hcal
      split at hc
      · rename_i xs hxs
        split at hc
        · rename_i hsz
          cases hc
          have hargs := cXs_args (S := S) (g := g) (cell := stab w0 R) hxs hsz hT
          have hf := evalX_rel (P := P) (t := 0) (x := .tmp t) (y := .t t) (S := S) (g := g) (cell := stab w0 R) (a := a) rfl hT
          simp only [evalW] at hq
          split at hq
          · rename_i f caps hfx
            rw [hfx] at hf
            obtain ⟨arr, hfe, hfl, hfr⟩ := hf.fn_inv
            have hall := hargs.append (l' := caps) (y := arr) ⟨hfl, hfr⟩
            have hrun : Enters P f → (execOp a.eval o).run P w = .ok (.enter f (c.args.map a.eval ++ arr)) w := fun hen => run_callv ho hcal hfe hen
            split at hq
            · split at hq
              · rename_i u n hu
                split at hq
                · rename_i S1 hn
                  cases hq
                  exact val hu hn hall hrun
                · cases hq
              · cases hq
            · split at hq
              · rename_i u hu
                cases hq
                exact view hu rfl hall hrun
              · cases hq
            · exact ref hq hall hrun
          · cases hq
        · cases hc
      · cases hc
    · split at hc
      · split at hc
        · cases hc; simp [evalW] at hq
        · cases hc; simp [evalW] at hq
        · cases hc
      · cases hc
    · -- append
      rename_i hcal
      obtain ⟨callee, args, argTypes⟩ := c
      simp only at hcal hc
      subst hcal
      split at hc
      · rename_i x y t u hargs hts
        have e1 : args = #[x, y] := by apply Array.ext'; simpa using hargs
        have e2 : argTypes = #[t, u] := by apply Array.ext'; simpa using hts
        subst e1; subst e2
        split at hc
        · rename_i e e' x' y' ht hu hx hy
          split at hc
          · rename_i inf zero hi hz
            split at hc
            · rename_i hcd
              cases hc
              exact app_does ho ht hu hi hz hcd.1 hR hW (evalX_rel hx hT) (evalX_rel hy hT) hq
            · cases hc
          · cases hc
        · cases hc
      · cases hc
    · split at hc
      · split at hc
        · cases hc; simp [evalW] at hq
        · cases hc
      · cases hc
    · split at hc
      · split at hc
        · cases hc; simp [evalW] at hq
        · cases hc
      · cases hc
    · cases hc
  all_goals
    exfalso
    revert hc
    repeat' split
    all_goals (intro hc; first | (cases hc; done) | (simp only [Option.map_eq_some_iff] at hc; obtain ⟨y, _, rfl⟩ := hc; simp [evalW] at hq; done) | (cases hc; simp [evalW] at hq; done))
end
end Go.Ae
