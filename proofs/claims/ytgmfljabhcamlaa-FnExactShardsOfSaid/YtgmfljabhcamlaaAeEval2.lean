import Derived.Test.YtgmfljabhcamlaaAeEval
namespace Go.Ae
open Go.RowKit
set_option linter.unusedVariables false
set_option linter.unusedSimpArgs false
section
variable {P : Program} {w w' w0 : World} {M : Nat → Nat → Path → Option Nat} {R : Nat → Prop} {S : St} {g : G} {a : Act} {o : Oper}

def negOf (op : BinOp) : Bool := match op with | .neq => true | _ => false
set_option maxHeartbeats 4000000 in
theorem evalQ_does {O : Oracle} {md : Nat → Mode} {op : I} {v : AV} {n : List (Nat × Blk)} {base : Nat} {S' : St} (hO : OracleFull P O) (hc : cI P o = some op) (hR : RdW w0 M R) (hW : WRel w0 M R S g w) (hT : TRel S g (stab w0 R) a)
    (hq : evalQ O md S base op = some (v, n)) (hn : addNews S n = some S') : Does P w0 M R S g a w o S' v := by
  unfold cI at hc
  split at hc
  · -- move
    rename_i x ho
    obtain ⟨y, hy, rfl⟩ := Option.map_eq_some_iff.1 hc
    simp only [evalQ, Option.some.injEq, Prod.mk.injEq] at hq
    obtain ⟨rfl, rfl⟩ := hq
    rw [addNews_nil hn]
    exact (goes_move (.inl ho) hW (evalX_rel hy hT)).does
  · -- assign
    rename_i x ho
    split at hc
    · rename_i fl sz hy
      cases hc
      simp only [evalQ, Option.some.injEq, Prod.mk.injEq] at hq
      obtain ⟨rfl, rfl⟩ := hq
      exact (goes_nil0 ho hW (evalX_rel hy hT) (addNews_one hn)).does
    · rename_i y hnn hy
      cases hc
      simp only [evalQ, Option.some.injEq, Prod.mk.injEq] at hq
      obtain ⟨rfl, rfl⟩ := hq
      rw [addNews_nil hn]
      exact (goes_move (.inr ho) hW (evalX_rel hy hT)).does
    · cases hc
  · -- pick
    rename_i c x y ho
    split at hc
    · rename_i c' x' y' h1 h2 h3
      cases hc
      simp only [evalQ] at hq
      have e1 := evalX_rel (S := S) (g := g) (cell := stab w0 R) h1 hT
      split at hq
      · rename_i hb
        cases hq
        rw [addNews_nil hn]
        rw [hb] at e1
        exact (goes_pick ho hW e1.bool_inv (evalX_rel h2 hT)).does
      · rename_i hb
        cases hq
        rw [addNews_nil hn]
        rw [hb] at e1
        exact (goes_pick ho hW e1.bool_inv (evalX_rel h3 hT)).does
      · cases hq
    · cases hc
  · -- alloc
    rename_i e ho
    split at hc
    · rename_i ws ag hz hag
      cases hc
      simp only [evalQ] at hq
      split at hq
      · rename_i cs n' hb
        split at hq
        · cases hq
        · rename_i hne
          cases hq
          unfold zeroOf at hz
          split at hz
          · rename_i zs inf hz1 hi
            split at hz
            · rename_i z hzz
              split at hz
              · rename_i hok
                cases hz
                simp only [Bool.and_eq_true] at hok
                exact (goes_alloc ho hW hi hzz hok.1 hb (by simpa using hne) hn).does
              · cases hz
            · cases hz
          · cases hz
      · cases hq
    · cases hc
  · -- box
    rename_i e x ho
    obtain ⟨y, hy, rfl⟩ := Option.map_eq_some_iff.1 hc
    simp only [evalQ] at hq
    split at hq
    · rename_i ws hws
      split at hq
      · rename_i cs n' hb
        split at hq
        · cases hq
        · rename_i hne
          cases hq
          exact (goes_box ho hW (evalX_rel hy hT) hws hb (by simpa using hne) hn).does
      · cases hq
    · cases hq
  · -- build
    rename_i t parts ho
    split at hc
    · rename_i zero fs hz ht
      split at hc
      · cases hc
      · rename_i hall
        split at hc
        · rename_i l hl
          cases hc
          simp only [evalQ] at hq
          split at hq
          · rename_i cs hcs
            cases hq
            rw [addNews_nil hn]
            exact (goes_build ho hz ht (by rw [Bool.not_eq_true, Bool.not_eq_false'] at hall; exact hall) hl hW hT hcs).does
          · cases hq
        · cases hc
    · cases hc
  · -- buildSlice
    rename_i t len parts ho
    split at hc
    · rename_i e ht
      split at hc
      · rename_i zero hz
        split at hc
        · rename_i l hl
          split at hc
          · rename_i hcond
            cases hc
            simp only [evalQ] at hq
            split at hq
            · rename_i rows hrows
              split at hq
              · rename_i hcd
                cases hq
                exact (goes_bslice ho ht hz hcond.1 hcond.2 hl hW hT hrows hcd.1 hcd.2.1 (addNews_one hn)).does
              · cases hq
            · cases hq
          · cases hc
        · cases hc
      · cases hc
    · cases hc
  · -- load
    rename_i t x ho
    split at hc
    · rename_i y ag inf hy hag hi
      split at hc
      · rename_i hcond
        cases hc
        simp only [evalQ] at hq
        have hv := evalX_rel (S := S) (g := g) (cell := stab w0 R) hy hT
        split at hq
        · rename_i lv s ver p i c hx
          rw [hx] at hv
          split at hq
          · rename_i b ys hat
            split at hq
            · rename_i row hrow
              split at hq
              · rename_i hle
                split at hq
                · rename_i u hu
                  cases hq
                  rw [addNews_nil hn]
                  exact (goes_load_own ho hW hi hag hcond.2 hv hat hrow hle hu).does
                · cases hq
              · cases hq
            · cases hq
          · cases hq
        · rename_i cs hx
          rw [hx] at hv
          split at hq
          · rename_i hle
            split at hq
            · rename_i u hu
              cases hq
              rw [addNews_nil hn]
              exact (goes_load_rd ho hR hW hi hag hcond.2 hv hle hu).does
            · cases hq
          · cases hq
        · cases hq
      · cases hc
    · cases hc
  · -- store
    split at hc
    · split at hc
      · cases hc; simp [evalQ] at hq
      · cases hc
    · cases hc
  · -- nilCheck
    rename_i x ho
    obtain ⟨y, hy, rfl⟩ := Option.map_eq_some_iff.1 hc
    simp only [evalQ] at hq
    have hv := evalX_rel (S := S) (g := g) (cell := stab w0 R) hy hT
    split at hq
    · rename_i lv s ver p i c hx
      rw [hx] at hv
      split at hq
      · rename_i b ys hat
        cases hq
        rw [addNews_nil hn]
        exact (goes_nilck_ptr ho hW hv hat).does
      · cases hq
    · rename_i cs hx
      rw [hx] at hv
      cases hq
      rw [addNews_nil hn]
      exact (goes_nilck_rptr ho hW hv).does
    · rename_i f cs hx
      rw [hx] at hv
      cases hq
      rw [addNews_nil hn]
      exact (goes_nilck_fn ho hW hv).does
    · cases hq
  · -- binOp
    rename_i op' xt x y yt ho
    have plain : ∀ {x' y' : X}, cX P xt x = some x' → cX P yt y = some y' → op = .bin op' x' y' → Does P w0 M R S g a w o S' v := fun {x' y'} h1 h2 h3 => by
      subst h3
      simp only [evalQ] at hq
      split at hq
      · rename_i r hr
        cases hq
        rw [addNews_nil hn]
        exact (goes_bin ho hW (evalX_rel h1 hT) (evalX_rel h2 hT) hr).does
      · cases hq
    have eqs : (op' = .eql ∨ op' = .neq) → ∀ {ks : Bool × List K3} {x' y' : X}, eqFlat P xt = some ks → cX P xt x = some x' → cX P yt y = some y' → ∀ ng : Bool, ng = negOf op' → op = .eqv ng ks.1 ks.2 x' y' → Does P w0 M R S g a w o S' v := fun hop {ks x' y'} h0 h1 h2 ng hng h3 => by
      subst h3
      simp only [evalQ] at hq
      split at hq
      · rename_i r hr
        cases hq
        rw [addNews_nil hn, hng]
        exact (goes_eqv hop ho h0 hW (evalX_rel h1 hT) (evalX_rel h2 hT) hr).does
      · cases hq
    split at hc
    · simp only at hc
      split at hc
      · split at hc
        · rename_i h1 h2; cases hc; exact plain h1 h2 rfl
        · cases hc
      · split at hc
        · rename_i h1 h2; cases hc; exact plain h1 h2 rfl
        · cases hc
      · split at hc
        · rename_i h0 h1 h2; cases hc; exact eqs (.inl rfl) h0 h1 h2 _ rfl rfl
        · cases hc
    · simp only at hc
      split at hc
      · split at hc
        · rename_i h1 h2; cases hc; exact plain h1 h2 rfl
        · cases hc
      · split at hc
        · rename_i h1 h2; cases hc; exact plain h1 h2 rfl
        · cases hc
      · split at hc
        · rename_i h0 h1 h2; cases hc; exact eqs (.inr rfl) h0 h1 h2 _ rfl rfl
        · cases hc
    · split at hc
      · rename_i h1 h2; cases hc; exact plain h1 h2 rfl
      · cases hc
  · -- not
    rename_i t x ho
    obtain ⟨y, hy, rfl⟩ := Option.map_eq_some_iff.1 hc
    simp only [evalQ] at hq
    have hv := evalX_rel (S := S) (g := g) (cell := stab w0 R) hy hT
    split at hq
    · rename_i b hx
      rw [hx] at hv
      cases hq
      rw [addNews_nil hn]
      exact (goes_not ho hW hv).does
    · cases hq
  · -- neg
    rename_i t x ho
    obtain ⟨y, hy, rfl⟩ := Option.map_eq_some_iff.1 hc
    simp only [evalQ] at hq
    have hv := evalX_rel (S := S) (g := g) (cell := stab w0 R) hy hT
    split at hq
    · rename_i k m hx
      rw [hx] at hv
      cases hq
      rw [addNews_nil hn]
      exact (goes_neg ho hW hv).does
    · cases hq
  · -- convert
    rename_i src dst x ho
    split at hc
    · rename_i k0 k y h1 h2 hy
      cases hc
      simp only [evalQ] at hq
      have hv := evalX_rel (S := S) (g := g) (cell := stab w0 R) hy hT
      split at hq
      · rename_i k' m hx
        rw [hx] at hv
        cases hq
        rw [addNews_nil hn]
        exact (goes_conv ho h1 h2 hW hv).does
      · cases hq
    · rename_i y h1 h2 hy
      cases hc
      simp only [evalQ] at hq
      have hv := evalX_rel (S := S) (g := g) (cell := stab w0 R) hy hT
      split at hq
      · rename_i s hx
        rw [hx] at hv
        cases hq
        rw [addNews_nil hn]
        exact (goes_strid ho h1 h2 hW hv).does
      · cases hq
    · rename_i e y h1 h2 hy
      have hv := evalX_rel (S := S) (g := g) (cell := stab w0 R) hy hT
      split at hc
      · rename_i h3
        split at hc
        · cases hc
          simp only [evalQ] at hq
          split at hq
          · rename_i s hx
            rw [hx] at hv
            cases hq
            exact (goes_s2b ho h1 h2 h3 hW hv (addNews_one hn)).does
          · cases hq
        · cases hc
      · cases hc
    · rename_i e y h1 h2 hy
      have hv := evalX_rel (S := S) (g := g) (cell := stab w0 R) hy hT
      split at hc
      · rename_i h3
        cases hc
        simp only [evalQ] at hq
        split at hq
        · rename_i lv s ver p off len hx
          rw [hx] at hv
          split at hq
          · rename_i b ys hat
            split at hq
            · rename_i hcd
              split at hq
              · rename_i l hl
                cases hq
                rw [addNews_nil hn]
                exact (goes_b2s_own ho h1 h2 h3 hW hv hat hcd.1 hcd.2 hl).does
              · cases hq
            · cases hq
          · cases hq
        · rename_i fl ys hx
          rw [hx] at hv
          split at hq
          · rename_i l hl
            cases hq
            rw [addNews_nil hn]
            exact (goes_b2s_rd ho h1 h2 h3 hR hW hv hl).does
          · cases hq
        · rename_i fl z hx
          rw [hx] at hv
          cases hq
          rw [addNews_nil hn]
          exact (goes_b2s_nil ho h1 h2 h3 hW hv).does
        · cases hq
      · cases hc
    · cases hc
  · -- makeFunc
    rename_i f first cap ho
    split at hc
    · rename_i hfe
      split at hc
      · rename_i cs hcs
        cases hc
        simp only [evalQ, Option.some.injEq, Prod.mk.injEq] at hq
        obtain ⟨rfl, rfl⟩ := hq
        rw [addNews_nil hn]
        have : first = #[] := by simpa using hfe
        subst this
        exact (goes_mkf ho hW hT hcs).does
      · cases hc
    · cases hc
  · -- makeSlice
    rename_i t x y ho
    split at hc
    · rename_i e ht
      split at hc
      · rename_i zero inf l c hz hi hx hy
        split at hc
        · rename_i hpos
          cases hc
          simp only [evalQ] at hq
          have h1 := evalX_rel (S := S) (g := g) (cell := stab w0 R) hx hT
          have h2 := evalX_rel (S := S) (g := g) (cell := stab w0 R) hy hT
          split at hq
          · rename_i m k hm hk
            rw [hm] at h1; rw [hk] at h2
            split at hq
            · rename_i hcd
              obtain ⟨q1, q2, q3, q4, q5, q6, q7⟩ := hcd
              cases hq
              exact (goes_mksl ho ht hz hi hpos hW h1 h2 q1 q2 q3 q4 q6 q7 (addNews_one hn)).does
            · cases hq
          · cases hq
        · cases hc
      · cases hc
    · cases hc
  · -- slice
    rename_i t x lo hi ho
    split at hc
    · rename_i y lo' hi' ht hx h1 h2
      cases hc
      have hv := evalX_rel (S := S) (g := g) (cell := stab w0 R) hx hT
      simp only [evalQ] at hq
      split at hq
      · rename_i s hs
        rw [hs] at hv
        split at hq
        · rename_i h hb
          split at hq
          · rename_i l lb
            cases hq
            rw [addNews_nil hn]
            exact (goes_scut ho ht hW hT hv h1 h2 hb lb).does
          · cases hq
        · cases hq
      · cases hq
    · rename_i e y lo' hi' ht hx h1 h2
      split at hc
      · rename_i inf hinf
        cases hc
        have hv := evalX_rel (S := S) (g := g) (cell := stab w0 R) hx hT
        simp only [evalQ] at hq
        split at hq
        · rename_i lv s ver p off len hs
          rw [hs] at hv
          split at hq
          · rename_i b ys hat
            split at hq
            · rename_i hcd
              split at hq
              · rename_i h hb
                split at hq
                · rename_i l lb
                  cases hq
                  rw [addNews_nil hn]
                  exact (goes_cut_sl ho ht hinf hW hT hv hat hcd.2.2.1 hcd.2.2.2 h1 h2 hb lb).does
                · cases hq
              · cases hq
            · cases hq
          · cases hq
        · rename_i fl ys hs
          rw [hs] at hv
          split at hq
          · rename_i hcd
            split at hq
            · rename_i h hb
              split at hq
              · rename_i l lb
                cases hq
                rw [addNews_nil hn]
                exact (goes_cut_rd ho ht hinf hW hT hv hcd h1 h2 hb lb).does
              · cases hq
            · cases hq
          · cases hq
        · rename_i fl z hs
          rw [hs] at hv
          split at hq
          · rename_i h hb
            split at hq
            · rename_i l lb
              cases hq
              rw [addNews_nil hn]
              exact (goes_cut_nil ho ht hinf hW hT hv h1 h2 hb lb).does
            · cases hq
          · cases hq
        · cases hq
      · cases hc
    · cases hc
  · -- fieldAddr
    rename_i t x f ho
    split at hc
    · rename_i fs y ht hx
      split at hc
      · rename_i fd hf
        split at hc
        · rename_i inf hi
          split at hc
          · rename_i hpos
            cases hc
            have hv := evalX_rel (S := S) (g := g) (cell := stab w0 R) hx hT
            simp only [evalQ] at hq
            split at hq
            · rename_i lv s ver p i c hs
              rw [hs] at hv
              split at hq
              · rename_i b hat
                cases hq
                rw [addNews_nil hn]
                exact (goes_faddr_own (b := b.1) (ys := b.2) ho ht hf hi hpos hW hv hat).does
              · cases hq
            · rename_i cs hs
              rw [hs] at hv
              split at hq
              · cases hq
                rw [addNews_nil hn]
                exact (goes_faddr_rd ho ht hf hi hpos hW hv).does
              · cases hq
            · cases hq
          · cases hc
        · cases hc
      · cases hc
    · cases hc
  · -- field
    rename_i t x f ho
    split at hc
    · rename_i fs y ht hx
      split at hc
      · rename_i fd hf
        split at hc
        · rename_i inf ag hi hag
          split at hc
          · rename_i h1
            cases hc
            have hv := evalX_rel (S := S) (g := g) (cell := stab w0 R) hx hT
            simp only [evalQ] at hq
            split at hq
            · rename_i cs hs
              rw [hs] at hv
              split at hq
              · rename_i hl
                split at hq
                · rename_i u hu
                  cases hq
                  rw [addNews_nil hn]
                  exact (goes_field ho ht hf hi hag h1 hW hv hl hu).does
                · cases hq
              · cases hq
            · cases hq
          · cases hc
        · cases hc
      · cases hc
    · cases hc
  · -- indexAddr
    rename_i t x y ho
    split at hc
    · rename_i e x' y' ht hx hy
      split at hc
      · rename_i inf hi
        split at hc
        · rename_i hpos
          cases hc
          have hv := evalX_rel (S := S) (g := g) (cell := stab w0 R) hx hT
          have hu := evalX_rel (S := S) (g := g) (cell := stab w0 R) hy hT
          simp only [evalQ] at hq
          split at hq
          · rename_i lv s ver p off len k m hs hm
            rw [hs] at hv; rw [hm] at hu
            split at hq
            · rename_i h0
              split at hq
              · rename_i b ys hat
                split at hq
                · rename_i row hrow
                  split at hq
                  · rename_i hcd
                    cases hq
                    rw [addNews_nil hn]
                    exact (goes_iaddr_own ho ht hi hW hv hu h0 hat hrow hcd.1).does
                  · cases hq
                · cases hq
              · cases hq
            · cases hq
          · rename_i fl ys k m hs hm
            rw [hs] at hv; rw [hm] at hu
            split at hq
            · rename_i h0
              split at hq
              · rename_i row hrow
                split at hq
                · rename_i hcd
                  cases hq
                  rw [addNews_nil hn]
                  exact (goes_iaddr_rd ho ht hi hpos hW hv hu h0 hrow hcd).does
                · cases hq
              · cases hq
            · cases hq
          · cases hq
        · cases hc
      · cases hc
    · cases hc
  · -- index
    rename_i t x y ho
    split at hc
    · rename_i x' y' ht hx hy
      cases hc
      have hv := evalX_rel (S := S) (g := g) (cell := stab w0 R) hx hT
      have hu := evalX_rel (S := S) (g := g) (cell := stab w0 R) hy hT
      simp only [evalQ] at hq
      split at hq
      · rename_i s k m hs hm
        rw [hs] at hv; rw [hm] at hu
        split at hq
        · rename_i h0
          split at hq
          · rename_i b hb
            cases hq
            rw [addNews_nil hn]
            exact (goes_idx ho ht hW hv hu h0 hb).does
          · cases hq
        · cases hq
      · cases hq
    · cases hc
  · -- extract
    rename_i x i ho
    obtain ⟨y, hy, rfl⟩ := Option.map_eq_some_iff.1 hc
    have hv := evalX_rel (S := S) (g := g) (cell := stab w0 R) hy hT
    simp only [evalQ] at hq
    split at hq
    · rename_i vs hs
      rw [hs] at hv
      split at hq
      · rename_i u hu
        cases hq
        rw [addNews_nil hn]
        exact (goes_ext ho hW hv hu).does
      · cases hq
    · cases hq
  · -- call
    rename_i c ho
    split at hc
    · rename_i f hcal
      split at hc
      · rename_i xs hxs
        split at hc
        · rename_i hsz
          cases hc
          have hargs := cXs_args (S := S) (g := g) (cell := stab w0 R) hxs hsz hT
          simp only [evalQ] at hq
          split at hq
          · -- by value
            have hen : Enters P f := by
              unfold callVal at hq
              split at hq
              · split at hq
                · rename_i hr; exact hO.enters _ _ _ _ hr
                · cases hq
              · cases hq
            exact call_does (run_call ho hcal hen) (callVal_ok hO.ok hR hW hargs hq hn)
          · -- by reference, read only
            split at hq
            · rename_i u hu
              cases hq
              unfold callView at hu
              split at hu
              · rename_i r hr
                split at hu
                · rename_i hb
                  split at hu
                  · rename_i hext
                    cases hu
                    have hb' : r.blks = [] := by simpa using hb
                    refine call_does (run_call ho hcal (hO.enters _ _ _ _ hr)) ?_
                    have hn2 : addNews { S with loc := S.loc, ext := S.ext } (numbered 0 (r.blks.map (Blk.mapR (injR 0)))) = some S := by rw [hb']; rfl
                    rw [addNews_nil hn]
                    exact callRef_ok hO.ok hR hW hargs hr hext hn2
                  · cases hu
                · cases hu
              · cases hu
            · cases hq
          · cases hq
        · cases hc
      · cases hc
    · split at hc
      · split at hc
        · cases hc; simp [evalQ] at hq
        · cases hc
      · cases hc
    · -- len
      rename_i hcal
      obtain ⟨callee, args, argTypes⟩ := c
      simp only at hcal hc
      subst hcal
      split at hc
      · rename_i x t hargs hts
        have e1 : args = #[x] := by apply Array.ext'; simpa using hargs
        have e2 : argTypes = #[t] := by apply Array.ext'; simpa using hts
        subst e1; subst e2
        split at hc
        · rename_i y ht hy
          cases hc
          have hv := evalX_rel (S := S) (g := g) (cell := stab w0 R) hy hT
          simp only [evalQ] at hq
          split at hq
          · rename_i s hs
            rw [hs] at hv
            cases hq
            rw [addNews_nil hn]
            exact (goes_len (n := s.size) ho ht hW hv (.inl ⟨rfl, s, hv.str_inv, rfl⟩)).does
          · cases hq
        · rename_i e y ht hy
          cases hc
          have hv := evalX_rel (S := S) (g := g) (cell := stab w0 R) hy hT
          simp only [evalQ] at hq
          split at hq
          · rename_i lv s ver p off len hs
            rw [hs] at hv
            split at hq
            · rename_i b hat
              cases hq
              rw [addNews_nil hn]
              obtain ⟨A, cap, h1, _⟩ := hv.sl_inv.2 b.1 b.2 hat
              exact (goes_len (n := len) ho ht hW hv (.inr ⟨⟨e, rfl⟩, A, cap, h1⟩)).does
            · cases hq
          · rename_i fl ys hs
            rw [hs] at hv
            cases hq
            rw [addNews_nil hn]
            obtain ⟨A, cap, h1⟩ : ∃ A cap, a.eval x = .slice A ys.length cap := by
              have hrd := hv.rd_inv
              generalize a.eval x = cv at hrd
              cases hrd with
              | rd _ _ A cap => exact ⟨A, cap, rfl⟩
            exact (goes_len (n := ys.length) ho ht hW hv (.inr ⟨⟨e, rfl⟩, A, cap, h1⟩)).does
          · rename_i fl z hs
            rw [hs] at hv
            cases hq
            rw [addNews_nil hn]
            exact (goes_len (n := 0) ho ht hW hv (.inr ⟨⟨e, rfl⟩, none, 0, hv.nil_inv⟩)).does
          · cases hq
        · cases hc
      · cases hc
    · split at hc
      · split at hc
        · split at hc
          · split at hc
            · cases hc; simp [evalQ] at hq
            · cases hc
          · cases hc
        · cases hc
      · cases hc
    · -- max
      rename_i hcal
      obtain ⟨callee, args, argTypes⟩ := c
      simp only at hcal hc
      subst hcal
      split at hc
      · rename_i x y t u hargs hts
        have e1 : args = #[x, y] := by apply Array.ext'; simpa using hargs
        have e2 : argTypes = #[t, u] := by apply Array.ext'; simpa using hts
        subst e1; subst e2
        split at hc
        · rename_i x' y' hx hy
          cases hc
          have hv := evalX_rel (S := S) (g := g) (cell := stab w0 R) hx hT
          have hu := evalX_rel (S := S) (g := g) (cell := stab w0 R) hy hT
          simp only [evalQ] at hq
          split at hq
          · rename_i k m k' m' hs hm
            rw [hs] at hv; rw [hm] at hu
            split at hq
            · rename_i hk
              subst hk
              cases hq
              rw [addNews_nil hn]
              exact (goes_max ho hW hv hu).does
            · cases hq
          · cases hq
        · cases hc
      · cases hc
    · -- min
      rename_i hcal
      obtain ⟨callee, args, argTypes⟩ := c
      simp only at hcal hc
      subst hcal
      split at hc
      · rename_i x y t u hargs hts
        have e1 : args = #[x, y] := by apply Array.ext'; simpa using hargs
        have e2 : argTypes = #[t, u] := by apply Array.ext'; simpa using hts
        subst e1; subst e2
        split at hc
        · rename_i x' y' hx hy
          cases hc
          have hv := evalX_rel (S := S) (g := g) (cell := stab w0 R) hx hT
          have hu := evalX_rel (S := S) (g := g) (cell := stab w0 R) hy hT
          simp only [evalQ] at hq
          split at hq
          · rename_i k m k' m' hs hm
            rw [hs] at hv; rw [hm] at hu
            split at hq
            · rename_i hk
              subst hk
              cases hq
              rw [addNews_nil hn]
              exact (goes_min ho hW hv hu).does
            · cases hq
          · cases hq
        · cases hc
      · cases hc
    · cases hc
  · cases hc
end
end Go.Ae
