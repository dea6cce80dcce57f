/- The evaluator's operations, one by one, are the machine's. -/
import Derived.Test.YtiabjkihebhfkaaGreatAeL3
import Derived.Orders
namespace Go.Ae
open Go.RowKit
set_option linter.unusedVariables false
set_option linter.unusedSimpArgs false
section
variable {P : Program} {w w' w0 : World} {M : Nat → Nat → Path → Option Nat} {R : Nat → Prop} {S : St} {g : G} {a : Act} {o : Oper}

theorem addNews_nil {S' : St} (h : addNews S [] = some S') : S' = S := by simp [addNews] at h; exact h.symm

theorem cXs_args {cell : Addr → Option Value} {xs : Array Operand} {ts : Array TypeId} {ys : List X} (h : cXs P (xs.toList.zip ts.toList) = some ys) (hl : xs.size = ts.size) (hT : TRel S g cell a) : VRels S g cell (evalXs S ys) (xs.map a.eval) := by
  have key : ∀ (l : List Operand) (t : List TypeId) (ys : List X), cXs P (l.zip t) = some ys → l.length = t.length → (evalXs S ys).length = l.length ∧ ∀ (i : Nat) (v : AV), (evalXs S ys)[i]? = some v → ∃ x, l[i]? = some x ∧ VRel S g cell v (a.eval x) := by
    intro l
    induction l with
    | nil => intro t ys h _; simp [cXs] at h; subst h; exact ⟨rfl, fun i v h => by simp [evalXs] at h⟩
    | cons x r ih =>
      intro t ys h hl
      cases t with
      | nil => simp at hl
      | cons t ts =>
        simp only [List.zip_cons_cons, cXs] at h
        split at h
        · rename_i y zs h1 h2
          cases h
          obtain ⟨k1, k2⟩ := ih ts zs h2 (by simpa using hl)
          refine ⟨by simp [evalXs, k1], fun i v hv => ?_⟩
          cases i with
          | zero => simp [evalXs] at hv; subst hv; exact ⟨x, by simp, evalX_rel h1 hT⟩
          | succ i => simp [evalXs] at hv; obtain ⟨x', e1, e2⟩ := k2 i v hv; exact ⟨x', by simpa using e1, e2⟩
        · cases h
  obtain ⟨k1, k2⟩ := key xs.toList ts.toList ys h (by simpa using hl)
  refine ⟨by simp [k1], fun i v hv => ?_⟩
  obtain ⟨x, e1, e2⟩ := k2 i v hv
  have : (xs.map a.eval).getD i Go.undef = a.eval x := by
    rw [Array.getElem?_toList] at e1
    simp [e1]
  rw [this]; exact e2

/-- A call to a known function. -/
theorem call_does {f : FuncId} {cargs : Array Value} {S' : St} {v : AV} (he : (execOp a.eval o).run P w = .ok (.enter f cargs) w) (h : Calls P f cargs w (fun e w' => ∃ cv g', e = .returned cv ∧ Outc w0 M R S g S' v cv w' g')) : Does P w0 M R S g a w o S' v := by
  intro next Q hnext
  unfold Oper.wp
  rw [he, Oper.upon_enter]
  refine Calls.mono h fun e w' hh => ?_
  obtain ⟨cv, g', rfl, hc⟩ := hh
  exact hnext cv w' g' hc

def Enters (P : Program) (f : Nat) : Prop := ∃ fn, P.funcs[f]? = some fn ∧ (fn.name == "runtime.NumGoroutine") = false ∧ fn.body.isNone = false
structure OracleFull (P : Program) (O : Oracle) : Prop where
  ok : OracleOk P O
  enters : ∀ f args E r, O f args E = some r → Enters P f

theorem run_call {c : Call} {f : FuncId} (ho : o.op = .call c) (hc : c.callee = .value (.func f)) (hf : Enters P f) : (execOp a.eval o).run P w = .ok (.enter f (c.args.map a.eval)) w := by
  obtain ⟨fn, h1, h2, h3⟩ := hf
  have h2' : fn.name ≠ "runtime.NumGoroutine" := by simpa using h2
  have h3' : fn.body ≠ none := fun h => by rw [h] at h3; cases h3
  unfold execOp
  rw [ho]
  simp [resolve, hc, Act.eval, Deferred.ofValue, invoke, callFunc, h1, h2', h3']
theorem run_callv {c : Call} {t : Nat} {f : FuncId} {caps : Array Value} (ho : o.op = .call c) (hc : c.callee = .value (.tmp t)) (hv : a.eval (.tmp t) = .func (.func f) #[] caps) (hf : Enters P f) : (execOp a.eval o).run P w = .ok (.enter f (c.args.map a.eval ++ caps)) w := by
  obtain ⟨fn, h1, h2, h3⟩ := hf
  have h2' : fn.name ≠ "runtime.NumGoroutine" := by simpa using h2
  have h3' : fn.body ≠ none := fun h => by rw [h] at h3; cases h3
  unfold execOp
  rw [ho]
  simp [resolve, hc, hv, Deferred.ofValue, invoke, callFunc, h1, h2', h3']
end
end Go.Ae
namespace Go.Ae
open Go.RowKit
set_option linter.unusedVariables false
set_option linter.unusedSimpArgs false
section
variable {P : Program} {w w' w0 : World} {M : Nat → Nat → Path → Option Nat} {R : Nat → Prop} {S : St} {g : G} {a : Act} {o : Oper}

def negOf (op : BinOp) : Bool := match op with | .neq => true | _ => false
set_option maxHeartbeats 4000000 in
theorem evalQ_does {O : Oracle} {md : Nat → Mode} {op : I} {v : AV} {n : List (Nat × Blk)} {base : Nat} {S' : St} (hO : OracleFull P O) (hc : cI P o = some op) (hR : RdW w0 M R) (hW : WRel w0 M R S g w) (hT : TRel S g (stab w0 R) a)
    (hq : evalQ O md S base op = some (v, n)) (hn : addNews S n = some S') : Does P w0 M R S g a w o S' v := by
  unfold cI at hc
  split at hc
  · -- move
    rename_i x ho
    obtain ⟨y, hy, rfl⟩ := Option.map_eq_some_iff.1 hc
    simp only [evalQ, Option.some.injEq, Prod.mk.injEq] at hq
    obtain ⟨rfl, rfl⟩ := hq
    rw [addNews_nil hn]
    exact (goes_move (.inl ho) hW (evalX_rel hy hT)).does
  · -- assign
    rename_i x ho
    split at hc
    · rename_i fl sz hy
      cases hc
      simp only [evalQ, Option.some.injEq, Prod.mk.injEq] at hq
      obtain ⟨rfl, rfl⟩ := hq
      exact (goes_nil0 ho hW (evalX_rel hy hT) (addNews_one hn)).does
    · rename_i y hnn hy
      cases hc
      simp only [evalQ, Option.some.injEq, Prod.mk.injEq] at hq
      obtain ⟨rfl, rfl⟩ := hq
      rw [addNews_nil hn]
      exact (goes_move (.inr ho) hW (evalX_rel hy hT)).does
    · cases hc
  · -- pick
    rename_i c x y ho
    split at hc
    · rename_i c' x' y' h1 h2 h3
      cases hc
      simp only [evalQ] at hq
      have e1 := evalX_rel (S := S) (g := g) (cell := stab w0 R) h1 hT
      split at hq
      · rename_i hb
        cases hq
        rw [addNews_nil hn]
        rw [hb] at e1
        exact (goes_pick ho hW e1.bool_inv (evalX_rel h2 hT)).does
      · rename_i hb
        cases hq
        rw [addNews_nil hn]
        rw [hb] at e1
        exact (goes_pick ho hW e1.bool_inv (evalX_rel h3 hT)).does
      · cases hq
    · cases hc
  · -- alloc
    rename_i e ho
    split at hc
    · rename_i ws ag hz hag
      cases hc
      simp only [evalQ] at hq
      split at hq
      · rename_i cs n' hb
        split at hq
        · cases hq
        · rename_i hne
          cases hq
          unfold zeroOf at hz
          split at hz
          · rename_i zs inf hz1 hi
            split at hz
            · rename_i z hzz
              split at hz
              · rename_i hok
                cases hz
                simp only [Bool.and_eq_true] at hok
                exact (goes_alloc ho hW hi hzz hok.1 hb (by simpa using hne) hn).does
              · cases hz
            · cases hz
          · cases hz
      · cases hq
    · cases hc
  · -- box
    rename_i e x ho
    obtain ⟨y, hy, rfl⟩ := Option.map_eq_some_iff.1 hc
    simp only [evalQ] at hq
    split at hq
    · rename_i ws hws
      split at hq
      · rename_i cs n' hb
        split at hq
        · cases hq
        · rename_i hne
          cases hq
          exact (goes_box ho hW (evalX_rel hy hT) hws hb (by simpa using hne) hn).does
      · cases hq
    · cases hq
  · -- build
    rename_i t parts ho
    split at hc
    · rename_i zero fs hz ht
      split at hc
      · cases hc
      · rename_i hall
        split at hc
        · rename_i l hl
          cases hc
          simp only [evalQ] at hq
          split at hq
          · rename_i cs hcs
            cases hq
            rw [addNews_nil hn]
            exact (goes_build ho hz ht (by rw [Bool.not_eq_true, Bool.not_eq_false'] at hall; exact hall) hl hW hT hcs).does
          · cases hq
        · cases hc
    · cases hc
  · -- buildSlice
    rename_i t len parts ho
    split at hc
    · rename_i e ht
      split at hc
      · rename_i zero hz
        split at hc
        · rename_i l hl
          split at hc
          · rename_i hcond
            cases hc
            simp only [evalQ] at hq
            split at hq
            · rename_i rows hrows
              split at hq
              · rename_i hcd
                cases hq
                exact (goes_bslice ho ht hz hcond.1 hcond.2 hl hW hT hrows hcd.1 hcd.2.1 (addNews_one hn)).does
              · cases hq
            · cases hq
          · cases hc
        · cases hc
      · cases hc
    · cases hc
  · -- load
    rename_i t x ho
    split at hc
    · rename_i y ag inf hy hag hi
      split at hc
      · rename_i hcond
        cases hc
        simp only [evalQ] at hq
        have hv := evalX_rel (S := S) (g := g) (cell := stab w0 R) hy hT
        split at hq
        · rename_i lv s ver p i c hx
          rw [hx] at hv
          split at hq
          · rename_i b ys hat
            split at hq
            · rename_i row hrow
              split at hq
              · rename_i hle
                split at hq
                · rename_i u hu
                  cases hq
                  rw [addNews_nil hn]
                  exact (goes_load_own ho hW hi hag hcond.2 hv hat hrow hle hu).does
                · cases hq
              · cases hq
            · cases hq
          · cases hq
        · rename_i cs hx
          rw [hx] at hv
          split at hq
          · rename_i hle
            split at hq
            · rename_i u hu
              cases hq
              rw [addNews_nil hn]
              exact (goes_load_rd ho hR hW hi hag hcond.2 hv hle hu).does
            · cases hq
          · cases hq
        · cases hq
      · cases hc
    · cases hc
  · -- store
    split at hc
    · split at hc
      · cases hc; simp [evalQ] at hq
      · cases hc
    · cases hc
  · -- nilCheck
    rename_i x ho
    obtain ⟨y, hy, rfl⟩ := Option.map_eq_some_iff.1 hc
    simp only [evalQ] at hq
    have hv := evalX_rel (S := S) (g := g) (cell := stab w0 R) hy hT
    split at hq
    · rename_i lv s ver p i c hx
      rw [hx] at hv
      split at hq
      · rename_i b ys hat
        cases hq
        rw [addNews_nil hn]
        exact (goes_nilck_ptr ho hW hv hat).does
      · cases hq
    · rename_i cs hx
      rw [hx] at hv
      cases hq
      rw [addNews_nil hn]
      exact (goes_nilck_rptr ho hW hv).does
    · rename_i f cs hx
      rw [hx] at hv
      cases hq
      rw [addNews_nil hn]
      exact (goes_nilck_fn ho hW hv).does
    · cases hq
  · -- binOp
    rename_i op' xt x y yt ho
    have plain : ∀ {x' y' : X}, cX P xt x = some x' → cX P yt y = some y' → op = .bin op' x' y' → Does P w0 M R S g a w o S' v := fun {x' y'} h1 h2 h3 => by
      subst h3
      simp only [evalQ] at hq
      split at hq
      · rename_i r hr
        cases hq
        rw [addNews_nil hn]
        exact (goes_bin ho hW (evalX_rel h1 hT) (evalX_rel h2 hT) hr).does
      · cases hq
    have eqs : (op' = .eql ∨ op' = .neq) → ∀ {ks : Bool × List K3} {x' y' : X}, eqFlat P xt = some ks → cX P xt x = some x' → cX P yt y = some y' → ∀ ng : Bool, ng = negOf op' → op = .eqv ng ks.1 ks.2 x' y' → Does P w0 M R S g a w o S' v := fun hop {ks x' y'} h0 h1 h2 ng hng h3 => by
      subst h3
      simp only [evalQ] at hq
      split at hq
      · rename_i r hr
        cases hq
        rw [addNews_nil hn, hng]
        exact (goes_eqv hop ho h0 hW (evalX_rel h1 hT) (evalX_rel h2 hT) hr).does
      · cases hq
    split at hc
    · simp only at hc
      split at hc
      · split at hc
        · rename_i h1 h2; cases hc; exact plain h1 h2 rfl
        · cases hc
      · split at hc
        · rename_i h1 h2; cases hc; exact plain h1 h2 rfl
        · cases hc
      · split at hc
        · rename_i h0 h1 h2; cases hc; exact eqs (.inl rfl) h0 h1 h2 _ rfl rfl
        · cases hc
    · simp only at hc
      split at hc
      · split at hc
        · rename_i h1 h2; cases hc; exact plain h1 h2 rfl
        · cases hc
      · split at hc
        · rename_i h1 h2; cases hc; exact plain h1 h2 rfl
        · cases hc
      · split at hc
        · rename_i h0 h1 h2; cases hc; exact eqs (.inr rfl) h0 h1 h2 _ rfl rfl
        · cases hc
    · split at hc
      · rename_i h1 h2; cases hc; exact plain h1 h2 rfl
      · cases hc
  · -- not
    rename_i t x ho
    obtain ⟨y, hy, rfl⟩ := Option.map_eq_some_iff.1 hc
    simp only [evalQ] at hq
    have hv := evalX_rel (S := S) (g := g) (cell := stab w0 R) hy hT
    split at hq
    · rename_i b hx
      rw [hx] at hv
      cases hq
      rw [addNews_nil hn]
      exact (goes_not ho hW hv).does
    · cases hq
  · -- neg
    rename_i t x ho
    obtain ⟨y, hy, rfl⟩ := Option.map_eq_some_iff.1 hc
    simp only [evalQ] at hq
    have hv := evalX_rel (S := S) (g := g) (cell := stab w0 R) hy hT
    split at hq
    · rename_i k m hx
      rw [hx] at hv
      cases hq
      rw [addNews_nil hn]
      exact (goes_neg ho hW hv).does
    · cases hq
  · -- convert
    rename_i src dst x ho
    split at hc
    · rename_i k0 k y h1 h2 hy
      cases hc
      simp only [evalQ] at hq
      have hv := evalX_rel (S := S) (g := g) (cell := stab w0 R) hy hT
      split at hq
      · rename_i k' m hx
        rw [hx] at hv
        cases hq
        rw [addNews_nil hn]
        exact (goes_conv ho h1 h2 hW hv).does
      · cases hq
    · rename_i y h1 h2 hy
      cases hc
      simp only [evalQ] at hq
      have hv := evalX_rel (S := S) (g := g) (cell := stab w0 R) hy hT
      split at hq
      · rename_i s hx
        rw [hx] at hv
        cases hq
        rw [addNews_nil hn]
        exact (goes_strid ho h1 h2 hW hv).does
      · cases hq
    · rename_i e y h1 h2 hy
      have hv := evalX_rel (S := S) (g := g) (cell := stab w0 R) hy hT
      split at hc
      · rename_i h3
        split at hc
        · cases hc
          simp only [evalQ] at hq
          split at hq
          · rename_i s hx
            rw [hx] at hv
            cases hq
            exact (goes_s2b ho h1 h2 h3 hW hv (addNews_one hn)).does
          · cases hq
        · cases hc
      · cases hc
    · rename_i e y h1 h2 hy
      have hv := evalX_rel (S := S) (g := g) (cell := stab w0 R) hy hT
      split at hc
      · rename_i h3
        cases hc
        simp only [evalQ] at hq
        split at hq
        · rename_i lv s ver p off len hx
          rw [hx] at hv
          split at hq
          · rename_i b ys hat
            split at hq
            · rename_i hcd
              split at hq
              · rename_i l hl
                cases hq
                rw [addNews_nil hn]
                exact (goes_b2s_own ho h1 h2 h3 hW hv hat hcd.1 hcd.2 hl).does
              · cases hq
            · cases hq
          · cases hq
        · rename_i fl ys hx
          rw [hx] at hv
          split at hq
          · rename_i l hl
            cases hq
            rw [addNews_nil hn]
            exact (goes_b2s_rd ho h1 h2 h3 hR hW hv hl).does
          · cases hq
        · rename_i fl z hx
          rw [hx] at hv
          cases hq
          rw [addNews_nil hn]
          exact (goes_b2s_nil ho h1 h2 h3 hW hv).does
        · cases hq
      · cases hc
    · cases hc
  · -- makeFunc
    rename_i f first cap ho
    split at hc
    · rename_i hfe
      split at hc
      · rename_i cs hcs
        cases hc
        simp only [evalQ, Option.some.injEq, Prod.mk.injEq] at hq
        obtain ⟨rfl, rfl⟩ := hq
        rw [addNews_nil hn]
        have : first = #[] := by simpa using hfe
        subst this
        exact (goes_mkf ho hW hT hcs).does
      · cases hc
    · cases hc
  · -- makeSlice
    rename_i t x y ho
    split at hc
    · rename_i e ht
      split at hc
      · rename_i zero inf l c hz hi hx hy
        split at hc
        · rename_i hpos
          cases hc
          simp only [evalQ] at hq
          have h1 := evalX_rel (S := S) (g := g) (cell := stab w0 R) hx hT
          have h2 := evalX_rel (S := S) (g := g) (cell := stab w0 R) hy hT
          split at hq
          · rename_i m k hm hk
            rw [hm] at h1; rw [hk] at h2
            split at hq
            · rename_i hcd
              obtain ⟨q1, q2, q3, q4, q5, q6, q7⟩ := hcd
              cases hq
              exact (goes_mksl ho ht hz hi hpos hW h1 h2 q1 q2 q3 q4 q6 q7 (addNews_one hn)).does
            · cases hq
          · cases hq
        · cases hc
      · cases hc
    · cases hc
  · -- slice
    rename_i t x lo hi ho
    split at hc
    · rename_i y lo' hi' ht hx h1 h2
      cases hc
      have hv := evalX_rel (S := S) (g := g) (cell := stab w0 R) hx hT
      simp only [evalQ] at hq
      split at hq
      · rename_i s hs
        rw [hs] at hv
        split at hq
        · rename_i h hb
          split at hq
          · rename_i l lb
            cases hq
            rw [addNews_nil hn]
            exact (goes_scut ho ht hW hT hv h1 h2 hb lb).does
          · cases hq
        · cases hq
      · cases hq
    · rename_i e y lo' hi' ht hx h1 h2
      split at hc
      · rename_i inf hinf
        cases hc
        have hv := evalX_rel (S := S) (g := g) (cell := stab w0 R) hx hT
        simp only [evalQ] at hq
        split at hq
        · rename_i lv s ver p off len hs
          rw [hs] at hv
          split at hq
          · rename_i b ys hat
            split at hq
            · rename_i hcd
              split at hq
              · rename_i h hb
                split at hq
                · rename_i l lb
                  cases hq
                  rw [addNews_nil hn]
                  exact (goes_cut_sl ho ht hinf hW hT hv hat hcd.2.2.1 hcd.2.2.2 h1 h2 hb lb).does
                · cases hq
              · cases hq
            · cases hq
          · cases hq
        · rename_i fl ys hs
          rw [hs] at hv
          split at hq
          · rename_i hcd
            split at hq
            · rename_i h hb
              split at hq
              · rename_i l lb
                cases hq
                rw [addNews_nil hn]
                exact (goes_cut_rd ho ht hinf hW hT hv hcd h1 h2 hb lb).does
              · cases hq
            · cases hq
          · cases hq
        · rename_i fl z hs
          rw [hs] at hv
          split at hq
          · rename_i h hb
            split at hq
            · rename_i l lb
              cases hq
              rw [addNews_nil hn]
              exact (goes_cut_nil ho ht hinf hW hT hv h1 h2 hb lb).does
            · cases hq
          · cases hq
        · cases hq
      · cases hc
    · cases hc
  · -- a cut with three bounds
    rename_i t x lo hi m ho
    split at hc
    · rename_i e y lo' hi' m' ht hx h1 h2 h3
      split at hc
      · rename_i inf hinf
        cases hc
        have hv := evalX_rel (S := S) (g := g) (cell := stab w0 R) hx hT
        simp only [evalQ] at hq
        split at hq
        · rename_i lv s ver off len k mm hs hm
          rw [hs] at hv
          split at hq
          · rename_i b ys hat
            split at hq
            · rename_i hcd
              split at hq
              · rename_i h hb
                split at hq
                · rename_i l lb
                  cases hq
                  rw [addNews_nil hn]
                  exact (goes_cut3 ho ht hinf hW hT hv hat hcd.2.2.1 h1 h2 h3 hm hcd.2.2.2.1 hcd.2.2.2.2 hb lb).does
                · cases hq
              · cases hq
            · cases hq
          · cases hq
        · cases hq
      · cases hc
    · cases hc
  · -- fieldAddr
    rename_i t x f ho
    split at hc
    · rename_i fs y ht hx
      split at hc
      · rename_i fd hf
        split at hc
        · rename_i inf hi
          split at hc
          · rename_i hpos
            cases hc
            have hv := evalX_rel (S := S) (g := g) (cell := stab w0 R) hx hT
            simp only [evalQ] at hq
            split at hq
            · rename_i lv s ver p i c hs
              rw [hs] at hv
              split at hq
              · rename_i b hat
                cases hq
                rw [addNews_nil hn]
                exact (goes_faddr_own (b := b.1) (ys := b.2) ho ht hf hi hpos hW hv hat).does
              · cases hq
            · rename_i cs hs
              rw [hs] at hv
              split at hq
              · cases hq
                rw [addNews_nil hn]
                exact (goes_faddr_rd ho ht hf hi hpos hW hv).does
              · cases hq
            · cases hq
          · cases hc
        · cases hc
      · cases hc
    · cases hc
  · -- field
    rename_i t x f ho
    split at hc
    · rename_i fs y ht hx
      split at hc
      · rename_i fd hf
        split at hc
        · rename_i inf ag hi hag
          split at hc
          · rename_i h1
            cases hc
            have hv := evalX_rel (S := S) (g := g) (cell := stab w0 R) hx hT
            simp only [evalQ] at hq
            split at hq
            · rename_i cs hs
              rw [hs] at hv
              split at hq
              · rename_i hl
                split at hq
                · rename_i u hu
                  cases hq
                  rw [addNews_nil hn]
                  exact (goes_field ho ht hf hi hag h1 hW hv hl hu).does
                · cases hq
              · cases hq
            · cases hq
          · cases hc
        · cases hc
      · cases hc
    · cases hc
  · -- indexAddr
    rename_i t x y ho
    split at hc
    · rename_i e x' y' ht hx hy
      split at hc
      · rename_i inf hi
        split at hc
        · rename_i hpos
          cases hc
          have hv := evalX_rel (S := S) (g := g) (cell := stab w0 R) hx hT
          have hu := evalX_rel (S := S) (g := g) (cell := stab w0 R) hy hT
          simp only [evalQ] at hq
          split at hq
          · rename_i lv s ver p off len k m hs hm
            rw [hs] at hv; rw [hm] at hu
            split at hq
            · rename_i h0
              split at hq
              · rename_i b ys hat
                split at hq
                · rename_i row hrow
                  split at hq
                  · rename_i hcd
                    cases hq
                    rw [addNews_nil hn]
                    exact (goes_iaddr_own ho ht hi hW hv hu h0 hat hrow hcd.1).does
                  · cases hq
                · cases hq
              · cases hq
            · cases hq
          · rename_i fl ys k m hs hm
            rw [hs] at hv; rw [hm] at hu
            split at hq
            · rename_i h0
              split at hq
              · rename_i row hrow
                split at hq
                · rename_i hcd
                  cases hq
                  rw [addNews_nil hn]
                  exact (goes_iaddr_rd ho ht hi hpos hW hv hu h0 hrow hcd).does
                · cases hq
              · cases hq
            · cases hq
          · cases hq
        · cases hc
      · cases hc
    · cases hc
  · -- index
    rename_i t x y ho
    split at hc
    · rename_i x' y' ht hx hy
      cases hc
      have hv := evalX_rel (S := S) (g := g) (cell := stab w0 R) hx hT
      have hu := evalX_rel (S := S) (g := g) (cell := stab w0 R) hy hT
      simp only [evalQ] at hq
      split at hq
      · rename_i s k m hs hm
        rw [hs] at hv; rw [hm] at hu
        split at hq
        · rename_i h0
          split at hq
          · rename_i b hb
            cases hq
            rw [addNews_nil hn]
            exact (goes_idx ho ht hW hv hu h0 hb).does
          · cases hq
        · cases hq
      · cases hq
    · cases hc
  · -- extract
    rename_i x i ho
    obtain ⟨y, hy, rfl⟩ := Option.map_eq_some_iff.1 hc
    have hv := evalX_rel (S := S) (g := g) (cell := stab w0 R) hy hT
    simp only [evalQ] at hq
    split at hq
    · rename_i vs hs
      rw [hs] at hv
      split at hq
      · rename_i u hu
        cases hq
        rw [addNews_nil hn]
        exact (goes_ext ho hW hv hu).does
      · cases hq
    · cases hq
  · -- call
    rename_i c ho
    split at hc
    · rename_i f hcal
      split at hc
      · rename_i xs hxs
        split at hc
        · rename_i hsz
          cases hc
          have hargs := cXs_args (S := S) (g := g) (cell := stab w0 R) hxs hsz hT
          simp only [evalQ] at hq
          split at hq
          · -- by value
            have hen : Enters P f := by
              unfold callVal at hq
              split at hq
              · split at hq
                · rename_i hr; exact hO.enters _ _ _ _ hr
                · cases hq
              · cases hq
            exact call_does (run_call ho hcal hen) (callVal_ok hO.ok hR hW hargs hq hn)
          · -- by reference, read only
            split at hq
            · rename_i u hu
              cases hq
              unfold callView at hu
              split at hu
              · rename_i r hr
                split at hu
                · rename_i hb
                  split at hu
                  · rename_i hext
                    cases hu
                    have hb' : r.blks = [] := by simpa using hb
                    refine call_does (run_call ho hcal (hO.enters _ _ _ _ hr)) ?_
                    have hn2 : addNews { S with loc := S.loc, ext := S.ext } (numbered 0 (r.blks.map (Blk.mapR (injR 0)))) = some S := by rw [hb']; rfl
                    rw [addNews_nil hn]
                    exact callRef_ok hO.ok hR hW hargs hr hext hn2
                  · cases hu
                · cases hu
              · cases hu
            · cases hq
          · cases hq
        · cases hc
      · cases hc
    · split at hc
      · split at hc
        · cases hc; simp [evalQ] at hq
        · cases hc
      · cases hc
    · -- len
      rename_i hcal
      obtain ⟨callee, args, argTypes⟩ := c
      simp only at hcal hc
      subst hcal
      split at hc
      · rename_i x t hargs hts
        have e1 : args = #[x] := by apply Array.ext'; simpa using hargs
        have e2 : argTypes = #[t] := by apply Array.ext'; simpa using hts
        subst e1; subst e2
        split at hc
        · rename_i y ht hy
          cases hc
          have hv := evalX_rel (S := S) (g := g) (cell := stab w0 R) hy hT
          simp only [evalQ] at hq
          split at hq
          · rename_i s hs
            rw [hs] at hv
            cases hq
            rw [addNews_nil hn]
            exact (goes_len (n := s.size) ho ht hW hv (.inl ⟨rfl, s, hv.str_inv, rfl⟩)).does
          · cases hq
        · rename_i e y ht hy
          cases hc
          have hv := evalX_rel (S := S) (g := g) (cell := stab w0 R) hy hT
          simp only [evalQ] at hq
          split at hq
          · rename_i lv s ver p off len hs
            rw [hs] at hv
            split at hq
            · rename_i b hat
              cases hq
              rw [addNews_nil hn]
              obtain ⟨A, cap, h1, _⟩ := hv.sl_inv.2 b.1 b.2 hat
              exact (goes_len (n := len) ho ht hW hv (.inr ⟨⟨e, rfl⟩, A, cap, h1⟩)).does
            · cases hq
          · rename_i fl ys hs
            rw [hs] at hv
            cases hq
            rw [addNews_nil hn]
            obtain ⟨A, cap, h1⟩ : ∃ A cap, a.eval x = .slice A ys.length cap := by
              have hrd := hv.rd_inv
              generalize a.eval x = cv at hrd
              cases hrd with
              | rd _ _ A cap => exact ⟨A, cap, rfl⟩
            exact (goes_len (n := ys.length) ho ht hW hv (.inr ⟨⟨e, rfl⟩, A, cap, h1⟩)).does
          · rename_i fl z hs
            rw [hs] at hv
            cases hq
            rw [addNews_nil hn]
            exact (goes_len (n := 0) ho ht hW hv (.inr ⟨⟨e, rfl⟩, none, 0, hv.nil_inv⟩)).does
          · cases hq
        · cases hc
      · cases hc
    · split at hc
      · split at hc
        · split at hc
          · split at hc
            · cases hc; simp [evalQ] at hq
            · cases hc
          · cases hc
        · cases hc
      · cases hc
    · split at hc
      · split at hc
        · split at hc
          · split at hc
            · cases hc; simp [evalQ] at hq
            · cases hc
          · cases hc
        · cases hc
      · cases hc
    · -- max
      rename_i hcal
      obtain ⟨callee, args, argTypes⟩ := c
      simp only at hcal hc
      subst hcal
      split at hc
      · rename_i x y t u hargs hts
        have e1 : args = #[x, y] := by apply Array.ext'; simpa using hargs
        have e2 : argTypes = #[t, u] := by apply Array.ext'; simpa using hts
        subst e1; subst e2
        split at hc
        · rename_i x' y' hx hy
          cases hc
          have hv := evalX_rel (S := S) (g := g) (cell := stab w0 R) hx hT
          have hu := evalX_rel (S := S) (g := g) (cell := stab w0 R) hy hT
          simp only [evalQ] at hq
          split at hq
          · rename_i k m k' m' hs hm
            rw [hs] at hv; rw [hm] at hu
            split at hq
            · rename_i hk
              subst hk
              cases hq
              rw [addNews_nil hn]
              exact (goes_max ho hW hv hu).does
            · cases hq
          · cases hq
        · cases hc
      · cases hc
    · -- min
      rename_i hcal
      obtain ⟨callee, args, argTypes⟩ := c
      simp only at hcal hc
      subst hcal
      split at hc
      · rename_i x y t u hargs hts
        have e1 : args = #[x, y] := by apply Array.ext'; simpa using hargs
        have e2 : argTypes = #[t, u] := by apply Array.ext'; simpa using hts
        subst e1; subst e2
        split at hc
        · rename_i x' y' hx hy
          cases hc
          have hv := evalX_rel (S := S) (g := g) (cell := stab w0 R) hx hT
          have hu := evalX_rel (S := S) (g := g) (cell := stab w0 R) hy hT
          simp only [evalQ] at hq
          split at hq
          · rename_i k m k' m' hs hm
            rw [hs] at hv; rw [hm] at hu
            split at hq
            · rename_i hk
              subst hk
              cases hq
              rw [addNews_nil hn]
              exact (goes_min ho hW hv hu).does
            · cases hq
          · cases hq
        · cases hc
      · cases hc
    · cases hc
  · cases hc
end
end Go.Ae
namespace Go.Ae
open Go.RowKit
set_option linter.unusedVariables false
set_option linter.unusedSimpArgs false
section
variable {P : Program} {w w' w0 : World} {M : Nat → Nat → Path → Option Nat} {R : Nat → Prop} {S : St} {g : G} {a : Act} {o : Oper}

theorem VRels.append {cell : Addr → Option Value} {l l' : List AV} {x y : Array Value} (h : VRels S g cell l x) (k : VRels S g cell l' y) : VRels S g cell (l ++ l') (x ++ y) := by
  refine ⟨by simp [h.1, k.1], fun i v hv => ?_⟩
  by_cases hi : i < l.length
  · rw [List.getElem?_append_left hi] at hv
    have := h.2 i v hv
    rwa [show (x ++ y).getD i undef = x.getD i undef by
      have : i < x.size := by rw [← h.1]; exact hi
      simp [Array.getElem?_append_left this]]
  · rw [List.getElem?_append_right (by omega)] at hv
    have := k.2 _ v hv
    rwa [show (x ++ y).getD i undef = y.getD (i - l.length) undef by
      have h1 := h.1
      simp [Array.getElem?_append_right (show x.size ≤ i by omega), h1]]

theorem evalW_does {O : Oracle} {md : Nat → Mode} {op : I} {v : AV} {base : Nat} {S' : St} (hO : OracleFull P O) (hc : cI P o = some op) (hR : RdW w0 M R) (hW : WRel w0 M R S g w) (hT : TRel S g (stab w0 R) a)
    (hq : evalW O md S base op = some (v, S')) : Does P w0 M R S g a w o S' v := by
  have ref : ∀ {f : Nat} {args : List AV} {cargs : Array Value} {fl : Bool}, callRef O S base f args fl = some (v, S') → VRels S g (stab w0 R) args cargs → (Enters P f → (execOp a.eval o).run P w = .ok (.enter f cargs) w) → Does P w0 M R S g a w o S' v := fun {f args cargs fl} hcall hargs hrun => by
    unfold callRef at hcall
    split at hcall
    · rename_i r hr
      split at hcall
      · cases hcall
      · split at hcall
        · rename_i l e hext
          split at hcall
          · rename_i S1 hn
            cases hcall
            exact call_does (hrun (hO.enters _ _ _ _ hr)) (callRef_ok hO.ok hR hW hargs hr hext hn)
          · cases hcall
        · cases hcall
    · cases hcall
  have val : ∀ {f : Nat} {args : List AV} {cargs : Array Value} {fl : Bool} {n : List (Nat × Blk)}, callVal O S base f args fl = some (v, n) → addNews S n = some S' → VRels S g (stab w0 R) args cargs → (Enters P f → (execOp a.eval o).run P w = .ok (.enter f cargs) w) → Does P w0 M R S g a w o S' v := fun {f args cargs fl n} hcall hn hargs hrun => by
    have hen : Enters P f := by
      unfold callVal at hcall
      split at hcall
      · split at hcall
        · rename_i hr; exact hO.enters _ _ _ _ hr
        · cases hcall
      · cases hcall
    exact call_does (hrun hen) (callVal_ok hO.ok hR hW hargs hcall hn)
  have view : ∀ {f : Nat} {args : List AV} {cargs : Array Value}, callView O S f args = some v → S' = S → VRels S g (stab w0 R) args cargs → (Enters P f → (execOp a.eval o).run P w = .ok (.enter f cargs) w) → Does P w0 M R S g a w o S' v := fun {f args cargs} hcall hS hargs hrun => by
    unfold callView at hcall
    split at hcall
    · rename_i r hr
      split at hcall
      · rename_i hb
        split at hcall
        · rename_i hext
          cases hcall
          have hb' : r.blks = [] := by simpa using hb
          have hn2 : addNews { S with loc := S.loc, ext := S.ext } (numbered 0 (r.blks.map (Blk.mapR (injR 0)))) = some S := by rw [hb']; rfl
          rw [hS]
          exact call_does (hrun (hO.enters _ _ _ _ hr)) (callRef_ok hO.ok hR hW hargs hr hext hn2)
        · cases hcall
      · cases hcall
    · cases hcall
  unfold cI at hc
  split at hc
  case h_9 =>
    -- store
    rename_i t x y ho
    split at hc
    · rename_i x' y' inf hx hy hi
      split at hc
      · rename_i hpos
        cases hc
        exact store_does ho hi rfl hpos hW (evalX_rel hx hT) (evalX_rel hy hT) hq
      · cases hc
    · cases hc
  case h_24 =>
    rename_i c ho
    split at hc
    · rename_i f hcal
      split at hc
      · rename_i xs hxs
        split at hc
        · rename_i hsz
          cases hc
          have hargs := cXs_args (S := S) (g := g) (cell := stab w0 R) hxs hsz hT
          simp only [evalW] at hq
          split at hq
          · exact ref hq hargs fun hen => run_call ho hcal hen
          · cases hq
        · cases hc
      · cases hc
    · rename_i t hcal
      split at hc
      · rename_i xs hxs
        split at hc
        · rename_i hsz
          cases hc
          have hargs := cXs_args (S := S) (g := g) (cell := stab w0 R) hxs hsz hT
          have hf := evalX_rel (P := P) (t := 0) (x := .tmp t) (y := .t t) (S := S) (g := g) (cell := stab w0 R) (a := a) rfl hT
          simp only [evalW] at hq
          split at hq
          · rename_i f caps hfx
            rw [hfx] at hf
            obtain ⟨arr, hfe, hfl, hfr⟩ := hf.fn_inv
            have hall := hargs.append (l' := caps) (y := arr) ⟨hfl, hfr⟩
            have hrun : Enters P f → (execOp a.eval o).run P w = .ok (.enter f (c.args.map a.eval ++ arr)) w := fun hen => run_callv ho hcal hfe hen
            split at hq
            · split at hq
              · rename_i u n hu
                split at hq
                · rename_i S1 hn
                  cases hq
                  exact val hu hn hall hrun
                · cases hq
              · cases hq
            · split at hq
              · rename_i u hu
                cases hq
                exact view hu rfl hall hrun
              · cases hq
            · exact ref hq hall hrun
          · cases hq
        · cases hc
      · cases hc
    · split at hc
      · split at hc
        · cases hc; simp [evalW] at hq
        · cases hc; simp [evalW] at hq
        · cases hc
      · cases hc
    · -- append
      rename_i hcal
      obtain ⟨callee, args, argTypes⟩ := c
      simp only at hcal hc
      subst hcal
      split at hc
      · rename_i x y t u hargs hts
        have e1 : args = #[x, y] := by apply Array.ext'; simpa using hargs
        have e2 : argTypes = #[t, u] := by apply Array.ext'; simpa using hts
        subst e1; subst e2
        split at hc
        · rename_i e e' x' y' ht hu hx hy
          split at hc
          · rename_i inf zero hi hz
            split at hc
            · rename_i hcd
              cases hc
              exact app_does ho ht hu hi hz hcd.1 hR hW (evalX_rel hx hT) (evalX_rel hy hT) hq
            · cases hc
          · cases hc
        · cases hc
      · cases hc
    · -- clear
      rename_i hcal
      obtain ⟨callee, args, argTypes⟩ := c
      simp only at hcal hc
      subst hcal
      split at hc
      · rename_i x t hargs hts
        have e1 : args = #[x] := by apply Array.ext'; simpa using hargs
        have e2 : argTypes = #[t] := by apply Array.ext'; simpa using hts
        subst e1; subst e2
        split at hc
        · rename_i e x' ht hx
          split at hc
          · rename_i zero hz
            split at hc
            · rename_i hcd
              cases hc
              exact clr_does ho ht hz hcd.2 hW (evalX_rel hx hT) hq
            · cases hc
          · cases hc
        · cases hc
      · cases hc
    · split at hc
      · split at hc
        · cases hc; simp [evalW] at hq
        · cases hc
      · cases hc
    · split at hc
      · split at hc
        · cases hc; simp [evalW] at hq
        · cases hc
      · cases hc
    · cases hc
  all_goals
    exfalso
    revert hc
    repeat' split
    all_goals (intro hc; first | (cases hc; done) | (simp only [Option.map_eq_some_iff] at hc; obtain ⟨y, _, rfl⟩ := hc; simp [evalW] at hq; done) | (cases hc; simp [evalW] at hq; done))
end
end Go.Ae
namespace Go.Ae
open Go.RowKit
set_option linter.unusedVariables false
set_option linter.unusedSimpArgs false
section
variable {P : Program} {w w' w0 : World} {M : Nat → Nat → Path → Option Nat} {R : Nat → Prop} {S : St} {g : G} {a : Act} {o : Oper}

theorem cI_store {n : Nat} {xa xx : X} (hc : cI P o = some (.store n xa xx)) : ∃ t x y inf, o.op = .store t x y ∧ cX P 0 x = some xa ∧ cX P t y = some xx ∧ P.info? t = some inf ∧ n = inf.size ∧ 0 < n := by
  unfold cI at hc
  split at hc
  case h_9 =>
    rename_i t x y ho
    split at hc
    · rename_i x' y' inf hx hy hi
      split at hc
      · rename_i hpos; cases hc; exact ⟨t, x, y, inf, ho, hx, hy, hi, rfl, hpos⟩
      · cases hc
    · cases hc
  all_goals
    exfalso
    revert hc
    repeat' split
    all_goals (intro hc; first | (cases hc; done) | (simp only [Option.map_eq_some_iff] at hc; obtain ⟨y, _, h⟩ := hc; cases h; done))
theorem cI_app {fl : Bool} {sz bytes : Nat} {xa xx : X} (hc : cI P o = some (.app fl sz bytes xa xx)) : ∃ t tx e e' x y it zero, o.op = .call { callee := .builtin .append, args := #[x, y], argTypes := #[t, tx] } ∧ P.underlying t = some (.slice e) ∧ P.underlying tx = some (.slice e') ∧
    P.info? e = some it ∧ zeroOf P e = some zero ∧ 0 < it.size ∧ cX P t x = some xa ∧ cX P tx y = some xx ∧ sz = it.size ∧ bytes = it.bytes := by
  unfold cI at hc
  split at hc
  case h_24 =>
    rename_i c ho
    split at hc
    · split at hc
      · split at hc <;> cases hc
      · cases hc
    · split at hc
      · split at hc <;> cases hc
      · cases hc
    · split at hc
      · split at hc <;> cases hc
      · cases hc
    · rename_i hcal
      obtain ⟨callee, args, argTypes⟩ := c
      simp only at hcal hc
      subst hcal
      split at hc
      · rename_i x y t u hargs hts
        have e1 : args = #[x, y] := by apply Array.ext'; simpa using hargs
        have e2 : argTypes = #[t, u] := by apply Array.ext'; simpa using hts
        subst e1; subst e2
        split at hc
        · rename_i e e' x' y' ht hu hx hy
          split at hc
          · rename_i inf zero hi hz
            split at hc
            · rename_i hcd
              cases hc
              exact ⟨t, u, e, e', x, y, inf, zero, ho, ht, hu, hi, hz, hcd.1, hx, hy, rfl, rfl⟩
            · cases hc
          · cases hc
        · cases hc
      · cases hc
    · split at hc
      · split at hc
        · split at hc
          · split at hc <;> cases hc
          · cases hc
        · cases hc
      · cases hc
    · split at hc
      · split at hc <;> cases hc
      · cases hc
    · split at hc
      · split at hc <;> cases hc
      · cases hc
    · cases hc
  all_goals
    exfalso
    revert hc
    repeat' split
    all_goals (intro hc; first | (cases hc; done) | (simp only [Option.map_eq_some_iff] at hc; obtain ⟨y, _, h⟩ := hc; cases h; done))
theorem cI_bslice {fl : Bool} {sz len : Nat} {zero : List AV} {ps : List (Nat × X)} (hc : cI P o = some (.bslice fl sz zero len ps)) : ∃ t e parts, o.op = .buildSlice t len parts ∧ P.underlying t = some (.slice e) ∧ zeroOf P e = some zero ∧ sz = zero.length ∧ 0 < zero.length ∧ len * zero.length ≤ 16777216 ∧
    parts.toList.foldr (fun p acc => match cX P e p.2, acc with | some x, some l => some ((p.1, x) :: l) | _, _ => none) (some []) = some ps := by
  unfold cI at hc
  split at hc
  case h_7 =>
    rename_i t len parts ho
    split at hc
    · rename_i e ht
      split at hc
      · rename_i zero hz
        split at hc
        · rename_i l hl
          split at hc
          · rename_i hcond
            cases hc
            exact ⟨t, e, parts, ho, ht, hz, rfl, hcond.1, hcond.2, hl⟩
          · cases hc
        · cases hc
      · cases hc
    · cases hc
  all_goals
    exfalso
    revert hc
    repeat' split
    all_goals (intro hc; first | (cases hc; done) | (simp only [Option.map_eq_some_iff] at hc; obtain ⟨y, _, h⟩ := hc; cases h; done))

theorem goes_bsm {t e : TypeId} {parts : Array (Nat × Operand)} {zero : List AV} {x : X} {ws cs : List AV} {n : List (Nat × Blk)} {base : Nat} {S' : St} (ho : o.op = .buildSlice t 1 parts) (ht : P.underlying t = some (.slice e)) (hz : zeroOf P e = some zero) (hpos : 0 < zero.length) (hbig : 1 * zero.length ≤ 16777216)
    (hc : parts.toList.foldr (fun p acc => match cX P e p.2, acc with | some x, some l => some ((p.1, x) :: l) | _, _ => none) (some []) = some [(0, x)]) (hW : WRel w0 M R S g w) (hT : TRel S g (stab w0 R) a) (hws : (evalX S x).cells = some ws) (hwl : ws.length = zero.length) (hb : boxCells (base + 1) ws = some (cs, n))
    (hn : addNews S (n ++ [(base, { ver := 0, sz := zero.length, box := true, fl := false, elems := [cs] })]) = some S') : Goes P w0 M R S g a w o S' (.sl 0 base 0 [] 0 1) := by
  obtain ⟨p, hp, hx⟩ : ∃ p, parts.toList = [(0, p)] ∧ cX P e p = some x := by
    cases hpl : parts.toList with
    | nil => rw [hpl] at hc; simp at hc
    | cons q r =>
      rw [hpl] at hc
      simp only [List.foldr_cons] at hc
      split at hc
      · rename_i x' l' hx' hl'
        simp only [Option.some.injEq, List.cons.injEq, Prod.mk.injEq] at hc
        obtain ⟨⟨h1, h2⟩, h3⟩ := hc
        subst h2
        have hr : r = [] := by
          cases r with
          | nil => rfl
          | cons q2 r2 =>
            simp only [List.foldr_cons] at hl'
            split at hl'
            · cases hl'; cases h3
            · cases hl'
        subst hr
        exact ⟨q.2, by rw [← h1], hx'⟩
      · cases hc
  obtain ⟨it, z, hit, hzz, hz1, hz2⟩ := zeroOf_info hz
  have hcells := cells_rel (evalX_rel (S := S) (g := g) (cell := stab w0 R) hx hT) hws
  have hvl : (a.eval p).cells.toList.length = zero.length := by simp; omega
  let arr0 : Array Value := (Array.range (1 * it.size)).map (z.cells[· % z.cells.size]!)
  have harr0 : arr0.size = zero.length := by simp [arr0, hz2]
  obtain ⟨f1, f2⟩ := foldl_set (a.eval p).cells.toList 0 (0 * it.size) arr0 (by rw [hvl, harr0]; omega)
  have ev : (a.eval p).cells.zipIdx.foldl (fun cs x => cs.setIfInBounds (0 * it.size + x.2) x.1) arr0 = ((a.eval p).cells.toList.zipIdx 0).foldl (fun cs x => cs.setIfInBounds (0 * it.size + x.2) x.1) arr0 := by
    rw [← Array.foldl_toList, Array.toList_zipIdx]
  let arr : Array Value := ((a.eval p).cells.toList.zipIdx 0).foldl (fun cs x => cs.setIfInBounds (0 * it.size + x.2) x.1) arr0
  have hfill : Instr.fill (fun i => some (i * it.size, it.size)) arr0 (parts.map fun p => (p.1, a.eval p.2)).toList = some arr := by
    rw [Array.toList_map, hp]
    simp only [List.map_cons, List.map_nil, Instr.fill]
    have hsz : (a.eval p).cells.size = it.size := by rw [← hz2]; simpa using hvl
    rw [if_neg (by simp [hsz]; omega)]
    rw [ev]
  have hget : ∀ j, j < zero.length → arr.getD j undef = (a.eval p).cells.getD j undef := fun j hj => by
    have := f2 j
    rw [if_pos (by omega)] at this
    simp only [Array.getD_eq_getD_getElem?]
    rw [show arr[j]? = _ from this, show j - (0 * it.size + 0) = j by omega, Array.getElem?_toList]
  have hrun := run_buildSlice' (P := P) (w := w) (len := 1) ht hit hzz (by rw [← hz2]; exact hbig) hfill
  have hex := run_of_value (exec_bslice (ρ := a.eval) ho) hrun
  have hcl : cs.length = zero.length := by
    obtain ⟨S1, h1, h2⟩ := addNews_append hn
    obtain ⟨g1, a1, a2, a3, a4, a5⟩ := boxCells_rel (cvs := fun i => arr.getD i undef) hb h1 hW fun i u hu => by
      have hlt := (List.getElem?_eq_some_iff.1 hu).1
      rw [hget i (by omega)]; exact hcells.2 i u hu
    omega
  rw [← hcl] at hn
  obtain ⟨g', b1, b2, b3⟩ := box_common (ty := e) (arr := arr) hW ⟨by rw [show arr.size = arr0.size from f1, harr0]; omega, fun i u hu => by
    have hlt := (List.getElem?_eq_some_iff.1 hu).1
    rw [hget i (by omega)]; exact hcells.2 i u hu⟩ hb (by cases cs with | nil => simp at hcl; omega | cons _ _ => rfl) hn
  refine ⟨_, _, g', hex, b1, b2, ?_⟩
  obtain ⟨S1, h1, h2⟩ := addNews_append hn
  have hbk := new_blk (addNews_one h2) 0 base
  rw [if_pos ⟨rfl, rfl⟩] at hbk
  have hat0 : S'.at 0 base 0 [] = some (_, [cs]) := at_mk hbk rfl rfl
  obtain ⟨_, B, hB, hBe⟩ := b3.ptr_inv.2 _ _ hat0
  have hBw : B = w.heap.size := by
    simp only [Value.pointer.injEq, Option.some.injEq, Addr.mk.injEq] at hBe
    exact hBe.1.symm
  subst hBw
  obtain ⟨d1, d2, d3⟩ := b1.cont 0 base _ [] [cs] hbk rfl
  rw [hB] at d3
  obtain ⟨arr', ty', fz', e1, e2, e3, e4, e5⟩ := d3
  refine .sl _ _ _ _ _ _ _ ⟨_, blk_get hbk, fun b' h => by cases h; exact Nat.le_refl _⟩ ⟨_, _, _, rfl⟩ fun b' ys hat => ?_
  rw [hat0] at hat
  cases hat
  refine ⟨_, 1, rfl, Nat.le_refl _, by simp, fun _ => ?_⟩
  rw [hB]
  refine ⟨.inr (by simp), fun _ => ?_⟩
  rw [← e3]
  simpa [csz] using e4

theorem cutM_does {O : Oracle} {md : Nat → Mode} {sz : Nat} {xa hi : X} {m : Option X} {v : AV} {base : Nat} {S' : St} (hO : OracleFull P O) (hc : cI P o = some (I.cutm sz xa hi m).plain) (hR : RdW w0 M R) (hW : WRel w0 M R S g w) (hT : TRel S g (stab w0 R) a)
    (hq : cutM S sz (evalX S xa) (evalX S hi) (evalO S m) = some (v, S')) : Does P w0 M R S g a w o S' v := by
  unfold cutM at hq
  split at hq
  case h_2 => cases hq
  rename_i lv t ver len hxa
  split at hq
  case h_2 => cases hq
  rename_i b xs hat
  split at hq
  case isFalse => cases hq
  rename_i hcd
  obtain ⟨hbox, hbfl, hbsz, hlen, hpos⟩ := hcd
  split at hq
  case h_2 => cases hq
  rename_i h hh
  cases hq
  have hbase : Does P w0 M R S g a w o S (.sl lv t ver [] 0 h) := by
    cases m with
    | none =>
      simp only [evalO, cutmH] at hh
      refine evalQ_does (O := O) (md := md) (base := base) (n := []) (op := .cut sz xa none (some hi)) hO hc hR hW hT ?_ rfl
      simp only [evalQ, hxa, hat, evalO]
      rw [if_pos ⟨by omega, hbox, fun _ => hbsz, by simp⟩, hh]
      simp [bound]
    | some m =>
      simp only [evalO] at hh
      unfold cutmH at hh
      split at hh
      · rename_i hm; cases hm
      · rename_i k mm hm
        simp only [Option.some.injEq] at hm
        split at hh
        · rename_i hc2
          refine evalQ_does (O := O) (md := md) (base := base) (n := []) (op := .cut3 sz xa none hi m) hO hc hR hW hT ?_ rfl
          simp only [evalQ, hxa, hm, hat, evalO]
          rw [if_pos ⟨by omega, hbox, hbsz, hc2.1, hc2.2⟩, hh]
          simp [bound]
        · cases hh
      · cases hh
  intro next Q hnext
  refine hbase next Q fun cv w' g' hout => ?_
  obtain ⟨hb, hver, hnav⟩ := at_blk hat
  obtain ⟨A, cap, rfl, d1, d2, c1, hin, hrow⟩ := flat_row hout.wrel hout.val hat hbox hbfl
  have hfl2 : ∀ i c v, cellAt (xs.take h) i c = some v → v.scal = true := fun i c v hv => (hin i c v (cell_lt c1 hv).2.2).1
  obtain ⟨g2, q1, q2, q3⟩ := hout.wrel.flatNew (S2 := S.put lv t (some { b with ver := b.ver + 1, elems := xs.take h })) (b2 := { b with ver := b.ver + 1, elems := xs.take h }) (w' := w') (n := h) (cap := cap) (A := A) hb rfl (Nat.lt_succ_self _) (fun r hr => c1 r (List.mem_of_mem_take hr)) (by show 0 < b.sz; omega) hfl2 d1 (by show h ≤ (xs.take h).length; simp; omega) rfl rfl rfl (by
    rcases hrow with ⟨p1, p2, p3, p4⟩ | ⟨B, arr, ty, fz, p1, p2, p3, p4, p5, p6, p7, p8⟩
    · exact .inr (.inr ⟨p1, by show xs.take h = []; rw [p2]; simp, p3, p4, rfl⟩)
    · refine .inl ⟨B, arr, ty, fz, p1, rfl, p5, fun _ _ => rfl, p2, p3, p4, p6, ?_, fun i c v hv => p8 i c v (cell_lt c1 hv).2.2⟩
      show (xs.take h).length * b.sz ≤ _
      exact Nat.le_trans (Nat.mul_le_mul_right _ (by simp; omega)) p7)
  have hvv : b.ver + 1 = ver + 1 := by omega
  rw [show ({ b with ver := b.ver + 1, elems := xs.take h } : Blk).ver = ver + 1 from hvv] at q3
  exact hnext _ w' g2 ⟨q1, hout.ext.trans q2, q3⟩
theorem evalV_does {O : Oracle} {md : Nat → Mode} {op : I} {v : AV} {base : Nat} {S' : St} (hO : OracleFull P O) (hc : cI P o = some op.plain) (hR : RdW w0 M R) (hW : WRel w0 M R S g w) (hT : TRel S g (stab w0 R) a)
    (hq : evalV O md S base op = some (v, S')) : Does P w0 M R S g a w o S' v := by
  cases op
  case stm n xa xx =>
    simp only [I.plain] at hc
    simp only [evalV] at hq
    split at hq
    · rename_i r hr
      cases hq
      obtain ⟨t, x, y, inf, ho, hx, hy, hi, hn, hpos⟩ := cI_store hc
      exact storeM_does ho hi hn hpos hW (evalX_rel hx hT) (evalX_rel hy hT) hr
    · exact evalW_does hO hc hR hW hT hq
  case apm fl sz bytes xa xx =>
    simp only [I.plain] at hc
    simp only [evalV] at hq
    split at hq
    · rename_i r hr
      cases hq
      exact evalW_does hO hc hR hW hT hr
    · obtain ⟨t, tx, e, e', x, y, it, zero, ho, ht, htx, hit, hz, hpos, hx, hy, rfl, rfl⟩ := cI_app hc
      split at hq
      · rename_i r hr
        cases hq
        exact appM_does ho ht htx hit hz hpos hW (evalX_rel hx hT) (evalX_rel hy hT) hr
      · exact appC_does ho ht htx hit hz hpos hR hW (evalX_rel hx hT) (evalX_rel hy hT) hq
  case bsm => simp [evalV, evalW] at hq
  case cutm sz xa hi m => exact cutM_does (md := md) (base := base) hO hc hR hW hT hq
  all_goals exact evalW_does (md := md) (base := base) hO hc hR hW hT hq

theorem evalQ_does2 {O : Oracle} {md : Nat → Mode} {op : I} {v : AV} {n : List (Nat × Blk)} {base : Nat} {S' : St} (hO : OracleFull P O) (hc : cI P o = some op.plain) (hR : RdW w0 M R) (hW : WRel w0 M R S g w) (hT : TRel S g (stab w0 R) a)
    (hq : evalQ O md S base op = some (v, n)) (hn : addNews S n = some S') : Does P w0 M R S g a w o S' v := by
  cases op
  case stm => simp [evalQ] at hq
  case cutm => simp [evalQ] at hq
  case apm => simp [evalQ] at hq
  case bsm fl sz zero len ps =>
    simp only [I.plain] at hc
    simp only [evalQ] at hq
    split at hq
    · rename_i x
      split at hq
      · rename_i ws hws
        split at hq
        · rename_i hcd
          obtain ⟨h1, h2, h3, rfl⟩ := hcd
          split at hq
          · rename_i cs nn hb
            cases hq
            obtain ⟨t, e, parts, ho, ht, hz, rfl, hpos, hbig, hps⟩ := cI_bslice hc
            exact (goes_bsm ho ht hz hpos hbig hps hW hT hws h1 hb hn).does
          · cases hq
        · cases hq
      · cases hq
    · cases hq
  all_goals exact evalQ_does (md := md) (base := base) hO hc hR hW hT hq hn

theorem moveCell_tmps {lv s : Nat} {v v' : AV} {S1 : St} (h : moveCell S lv s v = some (v', S1)) : S1.tmps = S.tmps := by
  unfold moveCell at h
  split at h
  · split at h
    · cases h
    · split at h
      · split at h
        · cases h; exact put_tmps _ _ _ _
        · cases h
      · cases h
  · cases h; rfl
  · split at h
    · cases h; rfl
    · cases h
theorem moveCells_tmps {lv s : Nat} : ∀ {ws cs : List AV} {S S1 : St}, moveCells S lv s ws = some (cs, S1) → S1.tmps = S.tmps
  | [], cs, S, S1, h => by simp [moveCells] at h; rw [h.2]
  | v :: r, cs, S, S1, h => by
    simp only [moveCells] at h
    split at h
    · rename_i h1
      split at h
      · rename_i h2; cases h; exact (moveCells_tmps h2).trans (moveCell_tmps h1)
      · cases h
    · cases h
theorem storeM_tmps {n : Nat} {a x v : AV} {S' : St} (h : storeM S n a x = some (v, S')) : S'.tmps = S.tmps := by
  unfold storeM at h
  split at h
  · split at h
    · split at h
      · split at h
        · split at h
          · split at h
            · cases h; exact put_tmps _ _ _ _
            · split at h
              · rename_i hm; cases h; rw [put_tmps]; exact moveCells_tmps hm
              · cases h
          · split at h
            · split at h
              · cases h; exact put_tmps _ _ _ _
              · cases h
            · cases h
          · cases h
        · cases h
      · cases h
    · cases h
  · cases h
theorem appM2_tmps {sz bytes lv s ver len t tv : Nat} {v : AV} {S' : St} (h : appM2 S sz bytes lv s ver len t tv = some (v, S')) : S'.tmps = S.tmps := by
  unfold appM2 at h
  split at h
  · split at h
    · split at h
      · rename_i hm; cases h; rw [put_tmps]; exact moveCells_tmps hm
      · cases h
    · cases h
  · cases h
theorem appM_tmps {base : Nat} {fl : Bool} {sz bytes : Nat} {s x v : AV} {S' : St} (h : appM S base fl sz bytes s x = some (v, S')) : S'.tmps = S.tmps := by
  unfold appM at h
  split at h
  · split at h
    · split at h
      · split at h
        · rename_i hn; exact (appM2_tmps h).trans (new_tmps hn)
        · cases h
      · cases h
    · exact appM2_tmps h
    · cases h
  · cases h
end
end Go.Ae
namespace Go.Ae
open Go.RowKit
set_option linter.unusedVariables false
set_option linter.unusedSimpArgs false
section
variable {P : Program} {w w' w0 : World} {M : Nat → Nat → Path → Option Nat} {R : Nat → Prop} {S : St} {g : G} {a : Act} {o : Oper}

theorem setT_heap (d : Option Nat) (v : AV) (lv : Nat) : (S.setT d v).heap lv = S.heap lv := by cases d <;> cases lv <;> rfl
theorem setT_blk (d : Option Nat) (v : AV) (lv s : Nat) : (S.setT d v).blk lv s = S.blk lv s := by unfold St.blk; rw [setT_heap]
theorem Ext.setT (d : Option Nat) (v : AV) : Ext S g (S.setT d v) g := ExtS.ext fun lv s ob h => ⟨ob, by rw [setT_heap]; exact h, fun b' hb => ⟨b', hb, Nat.le_refl _, fun _ => ⟨rfl, fun p ys h => ⟨ys, h, Nat.le_refl _, rfl, rfl, fun _ _ => rfl⟩⟩⟩⟩
theorem WRel.setT (d : Option Nat) (v : AV) (h : WRel w0 M R S g w) : WRel w0 M R (S.setT d v) g w where
  os := h.os
  tape := h.tape
  output := h.output
  size := h.size
  keep := h.keep
  rng := h.rng
  fresh := h.fresh
  ext := h.ext
  inj := h.inj
  cont := fun lv s b p ys hb hn => (h.cont lv s b p ys (by rw [← setT_blk d v]; exact hb) hn).mono (Ext.setT d v) (fun _ => rfl) (fun B hB => ⟨rfl, rfl⟩)
theorem TRel.put {cell : Addr → Option Value} {d : Option Nat} {v : AV} {cv : Value} (hT : TRel S g cell a) (hv : VRel S g cell v cv) : TRel (S.setT d v) g cell (a.put d cv) := by
  have hE := Ext.setT (S := S) (g := g) d v
  cases d with
  | none => exact ⟨hT.size, fun i u hu => (hT.val i u hu).mono hE, hT.defers⟩
  | some d =>
    refine ⟨by simp [Act.put, St.setT, hT.size], fun i u hu => ?_, hT.defers⟩
    simp only [St.setT] at hu
    rw [List.getElem?_set] at hu
    by_cases hd : d = i
    · subst hd
      rw [if_pos rfl] at hu
      split at hu
      · rename_i hlt
        cases hu
        have : (a.put (some d) cv).tmps.getD d undef = cv := by
          have hlt' : d < a.tmps.size := by rw [hT.size]; exact hlt
          simp [Act.put, hlt']
        rw [this]; exact hv.mono hE
      · cases hu
    · rw [if_neg hd] at hu
      have : (a.put (some d) cv).tmps.getD i undef = a.tmps.getD i undef := by
        simp [Act.put, Array.getElem?_setIfInBounds_ne hd]
      rw [this]; exact (hT.val i u hu).mono hE

theorem evalW_tmps {O : Oracle} {md : Nat → Mode} {op : I} {v : AV} {base : Nat} {S' : St} (hq : evalW O md S base op = some (v, S')) : S'.tmps = S.tmps := by
  have ref : ∀ {f : Nat} {args : List AV} {fl : Bool}, callRef O S base f args fl = some (v, S') → S'.tmps = S.tmps := fun {f args fl} hcall => by
    unfold callRef at hcall
    split at hcall
    · split at hcall
      · cases hcall
      · split at hcall
        · split at hcall
          · rename_i hn
            cases hcall
            exact (addNews_tmps hn).1
          · cases hcall
        · cases hcall
    · cases hcall
  unfold evalW at hq
  split at hq
  · split at hq
    · split at hq
      · split at hq
        · split at hq
          · split at hq
            · split at hq
              · split at hq
                · cases hq; exact put_tmps _ _ _ _
                · cases hq
              · split at hq
                · split at hq
                  · rename_i hn; cases hq; rw [put_tmps]; exact (addNews_tmps hn).1
                  · cases hq
                · cases hq
            · split at hq
              · split at hq
                · cases hq; exact put_tmps _ _ _ _
                · cases hq
              · cases hq
          · cases hq
        · cases hq
      · cases hq
    · cases hq
  · split at hq
    · exact ref hq
    · cases hq
  · split at hq
    · split at hq
      · split at hq
        · split at hq
          · rename_i hn; cases hq; exact (addNews_tmps hn).1
          · cases hq
        · cases hq
      · split at hq
        · cases hq; rfl
        · cases hq
      · exact ref hq
    · cases hq
  · split at hq
    · split at hq
      · split at hq
        · split at hq
          · split at hq
            · rename_i hn; cases hq; exact new_tmps hn
            · cases hq
          · cases hq
        · split at hq
          · split at hq
            · cases hq; exact put_tmps _ _ _ _
            · cases hq
          · cases hq
        · cases hq
      · cases hq
    · cases hq
  · split at hq
    · split at hq
      · split at hq
        · cases hq; exact put_tmps _ _ _ _
        · cases hq
      · cases hq
    · cases hq
  · cases hq
theorem appC_tmps {fl : Bool} {sz bytes : Nat} {s x v : AV} {S' : St} (hq : appC S fl sz bytes s x = some (v, S')) : S'.tmps = S.tmps := by
  unfold appC at hq
  split at hq
  · split at hq
    · split at hq
      · split at hq
        · split at hq
          · cases hq; exact put_tmps _ _ _ _
          · cases hq
        · cases hq
      · cases hq
    · cases hq
  · cases hq

theorem cutM_tmps {sz : Nat} {x hi v : AV} {m : Option AV} {S' : St} (hq : cutM S sz x hi m = some (v, S')) : S'.tmps = S.tmps := by
  unfold cutM at hq
  split at hq
  · split at hq
    · split at hq
      · split at hq
        · cases hq; exact put_tmps _ _ _ _
        · cases hq
      · cases hq
    · cases hq
  · cases hq
theorem evalV_tmps {O : Oracle} {md : Nat → Mode} {op : I} {v : AV} {base : Nat} {S' : St} (hq : evalV O md S base op = some (v, S')) : S'.tmps = S.tmps := by
  unfold evalV at hq
  split at hq
  · split at hq
    · rename_i hr; cases hq; exact storeM_tmps hr
    · exact evalW_tmps hq
  · split at hq
    · rename_i hr; cases hq; exact evalW_tmps hr
    · split at hq
      · rename_i hr; cases hq; exact appM_tmps hr
      · exact appC_tmps hq
  · exact cutM_tmps hq
  · exact evalW_tmps hq

structure Rel (w0 : World) (M : Nat → Nat → Path → Option Nat) (R : Nat → Prop) (S0 : St) (g0 : G) (S : St) (g : G) (a : Act) (w : World) : Prop where
  wrel : WRel w0 M R S g w
  ext : Ext S0 g0 S g
  trel : TRel S g (stab w0 R) a

variable {S0 : St} {g0 : G}

theorem Rel.put {S' : St} {v : AV} {cv : Value} {g' : G} {d : Option Nat} (h : Rel w0 M R S0 g0 S g a w) (hc : Outc w0 M R S g S' v cv w' g') (ht : S'.tmps = S.tmps) : Rel w0 M R S0 g0 (S'.setT d v) g' (a.put d cv) w' :=
  ⟨hc.wrel.setT d v, (h.ext.trans hc.ext).trans (Ext.setT d v), (h.trel.mono hc.ext ht).put hc.val⟩

theorem evalI_does {O : Oracle} {md : Nat → Mode} {io : IOp} {S' : St} (hO : OracleFull P O) (hc : cI P o = some io.op.plain) (hd : io.dst = o.dst) (hR : RdW w0 M R) (h : Rel w0 M R S0 g0 S g a w) (he : evalI O md io S = some S') (K : Act → World → Prop) (Q : Exit → Act → World → Prop)
    (hK : ∀ a' w' g', Rel w0 M R S0 g0 S' g' a' w' → K a' w') : o.wp P a w K Q := by
  unfold evalI at he
  split at he
  · split at he
    · split at he
      · rename_i v S1 hq
        have hq := (evalK_some.1 hq).1
        cases he
        refine evalV_does hO hc hR h.wrel h.trel hq K Q fun cv w' g' hout => ?_
        rw [← hd]
        exact hK _ _ g' (h.put hout (evalV_tmps hq))
      · cases he
    · cases he
  · split at he
    rotate_left
    · cases he
    split at he
    · rename_i v n hq
      split at he
      · rename_i S1 hn
        cases he
        refine evalQ_does2 hO hc hR h.wrel h.trel hq hn K Q fun cv w' g' hout => ?_
        rw [← hd]
        exact hK _ _ g' (h.put hout (addNews_tmps hn).1)
      · cases he
    · cases he

theorem guard_ok {cell : Addr → Option Value} {ops : Array Oper} {t : Bool} (hT : TRel S g cell a) (h : guardOf S (o.guard.map fun g => ((ops[g.1]?).bind (·.dst), g.2)) = some t) : Region.wanted o (yielded ops a.tmps) = t := by
  unfold Region.wanted
  cases hg : o.guard with
  | none => rw [hg] at h; simp [guardOf] at h; simp [h]
  | some p =>
    obtain ⟨j, want⟩ := p
    rw [hg] at h
    simp only [Option.map_some] at h
    simp only [yielded]
    cases hb : (ops[j]?).bind (·.dst) with
    | none => rw [hb] at h; simp [guardOf] at h; simp [h]
    | some d =>
      rw [hb] at h
      simp only [guardOf] at h
      split at h
      · rename_i b hd
        cases h
        have h1 := (hT.val d _ hd).bool_inv
        have hlt : d < a.tmps.size := by rw [hT.size]; exact (List.getElem?_eq_some_iff.1 hd).1
        have : a.tmps[d]? = some (.bool b) := by
          simp only [Array.getD_eq_getD_getElem?, Array.getElem?_eq_getElem hlt, Option.getD_some] at h1
          rw [Array.getElem?_eq_getElem hlt, h1]
        simp [this]
      · rename_i hd
        cases h
        have h1 := (hT.val d _ hd).skp_inv
        have hlt : d < a.tmps.size := by rw [hT.size]; exact (List.getElem?_eq_some_iff.1 hd).1
        have : a.tmps[d]? = some undef := by
          simp only [Array.getD_eq_getD_getElem?, Array.getElem?_eq_getElem hlt, Option.getD_some] at h1
          rw [Array.getElem?_eq_getElem hlt, h1]
        simp [this, undef]
      · cases h

theorem evalOp_wp {O : Oracle} {md : Nat → Mode} {io : IOp} {ops : Array Oper} {rid i : Nat} {S' : St} (hO : OracleFull P O) (ho : ops[i]? = some o) (hc : cOp P ops rid i o = some io.bare) (hR : RdW w0 M R) (h : Rel w0 M R S0 g0 S g a w) (he : evalOp O md io S = some S') (K : Act → World → Prop) (Q : Exit → Act → World → Prop)
    (hK : ∀ a' w' g', Rel w0 M R S0 g0 S' g' a' w' → K a' w') : wpOp P ops Q i K a w := by
  unfold cOp at hc
  split at hc
  · rename_i op hop
    simp only [Option.some.injEq, IOp.bare] at hc
    have e1 : io.dst = o.dst := (congrArg IOp.dst hc).symm
    have e2 : io.op.plain = op := (congrArg IOp.op hc).symm
    have e3 : io.g = o.guard.map fun g => ((ops[g.1]?).bind (·.dst), g.2) := (congrArg IOp.g hc).symm
    unfold evalOp at he
    rw [e3] at he
    unfold wpOp
    simp only [ho]
    split at he
    · rename_i hg
      rw [guard_ok h.trel hg, if_pos rfl]
      exact .inl (evalI_does hO (by rw [e2]; exact hop) e1 hR h he K Q hK)
    · rename_i hg
      rw [guard_ok h.trel hg, if_neg (by simp)]
      cases he
      refine hK _ _ g ⟨h.wrel.setT _ _, h.ext.trans (Ext.setT _ _), ?_⟩
      rw [← e1]
      exact h.trel.put .skp
    · cases he
  · cases hc

theorem evalOps_wp {O : Oracle} {md : Nat → Mode} {ops : Array Oper} {rid : Nat} (hO : OracleFull P O) (hR : RdW w0 M R) (Q : Exit → Act → World → Prop) : ∀ (l : List Oper) (i : Nat) (ios : List IOp) (S : St) (g : G) (a : Act) (w : World) (S' : St), (∀ j x, l[j]? = some x → ops[i + j]? = some x) → cOps P ops rid i l = some (ios.map IOp.bare) →
    Rel w0 M R S0 g0 S g a w → evalOps O md ios S = some S' → (∀ a' w' g', Rel w0 M R S0 g0 S' g' a' w' → Q .normal a' w') → wpOps P ops Q (List.range' i l.length) a w
  | [], i, ios, S, g, a, w, S', hl, hc, h, he, hQ => by
    simp only [cOps, Option.some.injEq] at hc
    have : ios = [] := by cases ios <;> simp at hc <;> rfl
    subst this
    simp only [evalOps, Option.some.injEq] at he
    subst he
    simp only [List.length_nil, List.range'_zero, wpOps]
    exact hQ _ _ g h
  | o :: r, i, ios, S, g, a, w, S', hl, hc, h, he, hQ => by
    simp only [cOps] at hc
    split at hc
    · rename_i op rest h1 h2
      simp only [Option.some.injEq] at hc
      cases ios with
      | nil => simp at hc
      | cons io ios =>
        simp only [List.map_cons, List.cons.injEq] at hc
        obtain ⟨rfl, rfl⟩ := hc
        simp only [evalOps] at he
        split at he
        · rename_i S1 hS1
          rw [List.length_cons, List.range'_succ, wpOps_cons]
          refine evalOp_wp hO (by simpa using hl 0 o (by simp)) h1 hR h hS1 _ Q fun a' w' g' h' => ?_
          exact evalOps_wp hO hR Q r (i + 1) ios S1 g' a' w' S' (fun j x hj => by
            have := hl (j + 1) x (by simpa using hj)
            rwa [show i + 1 + j = i + (j + 1) by omega]) h2 h' he hQ
        · cases he
    · cases hc

theorem evalOps_wp_rest {O : Oracle} {md : Nat → Mode} {ops : Array Oper} {rid : Nat} (hO : OracleFull P O) (hR : RdW w0 M R) (Q : Exit → Act → World → Prop) (rest : List Nat) : ∀ (l : List Oper) (i : Nat) (ios : List IOp) (S : St) (g : G) (a : Act) (w : World) (S' : St), (∀ j x, l[j]? = some x → ops[i + j]? = some x) → cOps P ops rid i l = some (ios.map IOp.bare) →
    Rel w0 M R S0 g0 S g a w → evalOps O md ios S = some S' → (∀ a' w' g', Rel w0 M R S0 g0 S' g' a' w' → wpOps P ops Q rest a' w') → wpOps P ops Q (List.range' i l.length ++ rest) a w
  | [], i, ios, S, g, a, w, S', hl, hc, h, he, hQ => by
    simp only [cOps, Option.some.injEq] at hc
    have : ios = [] := by cases ios <;> simp at hc <;> rfl
    subst this
    simp only [evalOps, Option.some.injEq] at he
    subst he
    simp only [List.length_nil, List.range'_zero, List.nil_append]
    exact hQ _ _ g h
  | o :: r, i, ios, S, g, a, w, S', hl, hc, h, he, hQ => by
    simp only [cOps] at hc
    split at hc
    · rename_i op rest' h1 h2
      simp only [Option.some.injEq] at hc
      cases ios with
      | nil => simp at hc
      | cons io ios =>
        simp only [List.map_cons, List.cons.injEq] at hc
        obtain ⟨rfl, rfl⟩ := hc
        simp only [evalOps] at he
        split at he
        · rename_i S1 hS1
          rw [List.length_cons, List.range'_succ, List.cons_append, wpOps_cons]
          refine evalOp_wp hO (by simpa using hl 0 o (by simp)) h1 hR h hS1 _ Q fun a' w' g' h' => ?_
          exact evalOps_wp_rest hO hR Q rest r (i + 1) ios S1 g' a' w' S' (fun j x hj => by
            have := hl (j + 1) x (by simpa using hj)
            rwa [show i + 1 + j = i + (j + 1) by omega]) h2 h' he hQ
        · cases he
    · cases hc

theorem region_wp {O : Oracle} {md : Nat → Mode} {ops : Array Oper} {id : Nat} {ios : List IOp} {S' : St} {Q : Exit → Act → World → Prop} (hO : OracleFull P O) (hR : RdW w0 M R) (hc : cOps P ops id 0 ops.toList = some (ios.map IOp.bare)) (h : Rel w0 M R S0 g0 S g a w) (he : evalOps O md ios S = some S')
    (hQ : ∀ a' w' g', Rel w0 M R S0 g0 S' g' a' w' → Q .normal a' w') : (Code.region id ops false).wp P Q a w := by
  refine wp_region ?_
  have := evalOps_wp hO hR Q ops.toList 0 ios S g a w S' (fun j x hj => by simpa using hj) hc h he hQ
  rwa [Array.length_toList, ← List.range_eq_range'] at this
end
end Go.Ae
namespace Go.Ae
open Go.RowKit
set_option linter.unusedVariables false
set_option linter.unusedSimpArgs false
section
variable {P : Program} {w w' w0 : World} {M : Nat → Nat → Path → Option Nat} {R : Nat → Prop} {S : St} {g : G} {a : Act} {S0 : St} {g0 : G}

theorem cleanT_get {kt ks : List Nat} : ∀ (l : List AV) (i j : Nat) (v : AV), (cleanT S kt ks i l)[j]? = some v → ∃ u, l[j]? = some u ∧ (v = u.mapR (scrubR S ks) ∨ v = .undef)
  | [], i, j, v, h => by simp [cleanT] at h
  | u :: r, i, j, v, h => by
    cases j with
    | zero =>
      simp only [cleanT, List.getElem?_cons_zero, Option.some.injEq] at h
      refine ⟨u, rfl, ?_⟩
      split at h
      · exact .inl h.symm
      · exact .inr h.symm
    | succ j =>
      simp only [cleanT, List.getElem?_cons_succ] at h
      simpa using cleanT_get r (i + 1) j v h
theorem cleanT_length {kt ks : List Nat} : ∀ (l : List AV) (i : Nat), (cleanT S kt ks i l).length = l.length
  | [], i => rfl
  | u :: r, i => by simp [cleanT, cleanT_length r]
theorem cleanH_get {ks : List Nat} : ∀ (h : Heap) (s : Nat), (cleanH S ks h).get s = if ks.contains s then (h.get s).map (fun ob => ob.map fun b => { Blk.mapR (scrubR S ks) b with ver := 0 }) else none
  | [], s => by simp [cleanH, Heap.get]
  | (t, ob) :: r, s => by
    simp only [cleanH]
    by_cases hk : ks.contains t = true
    · rw [if_pos hk]
      simp only [Heap.get]
      by_cases hs : s = t
      · subst hs
        rw [if_pos rfl, if_pos rfl, if_pos hk]
        cases ob <;> rfl
      · rw [if_neg hs, if_neg hs]; exact cleanH_get r s
    · rw [if_neg hk]
      rw [cleanH_get r s]
      by_cases hs : s = t
      · subst hs; rw [if_neg hk, if_neg hk]
      · simp only [Heap.get]; rw [if_neg hs]

def gClean (g : G) (ks : List Nat) : G := ⟨fun lv s p => match lv with | 0 => if ks.contains s then g.θ 0 s p else none | n + 1 => g.θ (n + 1) s p, g.κ⟩

theorem clean_get0 (kt ks : List Nat) (s : Nat) : ((S.clean kt ks).heap 0).get s = if ks.contains s then (S.loc.get s).map (fun ob => ob.map fun b => { Blk.mapR (scrubR S ks) b with ver := 0 }) else none := cleanH_get _ _
theorem clean_heap (kt ks : List Nat) (n : Nat) : (S.clean kt ks).heap (n + 1) = S.heap (n + 1) := rfl
theorem clean_blk0 {kt ks : List Nat} {s : Nat} {b' : Blk} (h : (S.clean kt ks).blk 0 s = some b') : ks.contains s = true ∧ ∃ b, S.blk 0 s = some b ∧ b' = { Blk.mapR (scrubR S ks) b with ver := 0 } := by
  have := blk_get h
  rw [clean_get0] at this
  by_cases hk : ks.contains s = true
  · rw [if_pos hk] at this
    obtain ⟨ob, h1, h2⟩ := Option.map_eq_some_iff.1 this
    obtain ⟨b, h3, h4⟩ := Option.map_eq_some_iff.1 h2
    subst h3
    exact ⟨hk, b, get_blk h1, h4.symm⟩
  · rw [if_neg hk] at this; cases this
theorem clean_mk {kt ks : List Nat} {s : Nat} {b : Blk} (hk : ks.contains s = true) (h : S.blk 0 s = some b) : ((S.clean kt ks).heap 0).get s = some (some { Blk.mapR (scrubR S ks) b with ver := 0 }) := by
  rw [clean_get0, if_pos hk, show S.loc.get s = some (some b) from blk_get h]; rfl

theorem ren_clean (hW : WRel w0 M R S g w) (kt ks : List Nat) : RenOk (scrubR S ks) S g (S.clean kt ks) (gClean g ks) := by
  intro lv s v p lv' s' v' hf hk
  cases lv with
  | succ n =>
    simp only [scrubR, Option.some.injEq, Prod.mk.injEq] at hf
    obtain ⟨rfl, rfl, rfl⟩ := hf
    obtain ⟨ob, h1, h2⟩ := hk
    exact ⟨⟨ob, h1, h2⟩, fun b' ys' hat => ⟨b', ys', hat, Nat.le_refl _, rfl, rfl, rfl, fun _ _ => rfl⟩⟩
  | zero =>
    simp only [scrubR] at hf
    split at hf
    · rename_i hks
      split at hf
      · rename_i b hb
        split at hf
        · rename_i hv
          cases hf
          have hget := clean_mk (kt := kt) hks hb
          refine ⟨⟨_, hget, fun b' h => by cases h; exact Nat.le_refl _⟩, fun b' ys' hat => ?_⟩
          obtain ⟨h1, h2, h3⟩ := at_blk hat
          rw [get_blk hget] at h1
          cases h1
          obtain ⟨e1, e2, e3, e4⟩ := mapR_ver (f := scrubR S ks) b
          have hθ : (gClean g ks).θ 0 s p = g.θ 0 s p := by simp only [gClean]; rw [if_pos hks]
          by_cases hbox : b.box = true
          · have hown := fun i c fl zs => box_own (hW.cont 0 s b [] b.elems hb rfl) hbox (i := i) (c := c) (fl := fl) (zs := zs)
            obtain ⟨rfl, rfl⟩ := box_nav (mapR_own (f := scrubR S ks) hbox hown) h3
            exact ⟨b, b.elems, at_mk hb hv rfl, by rw [mapR_len]; exact Nat.le_refl _, e2, e2, hθ, fun _ _ => rfl⟩
          · have hbox' : b.box = false := by simpa using hbox
            have h3' : navE b.elems p = some ys' := by rw [show ({ Blk.mapR (scrubR S ks) b with ver := 0 } : Blk).elems = b.elems by simp [mapR_arr hbox']] at h3; exact h3
            exact ⟨b, ys', at_mk hb hv h3', Nat.le_refl _, e2, by show csz (b.mapR (scrubR S ks)).sz p ys' = _; rw [e2], hθ, fun _ _ => rfl⟩
        · cases hf
      · cases hf
    · cases hf

theorem Rel.clean (h : Rel w0 M R S0 g0 S g a w) (h0 : S0.loc = []) (kt ks : List Nat) : Rel w0 M R S0 g0 (S.clean kt ks) (gClean g ks) a w := by
  obtain ⟨hW, hE, hT⟩ := h
  have hr := ren_clean hW kt ks
  refine ⟨?_, ?_, ?_⟩
  · have hθ : ∀ lv s p B, (gClean g ks).θ lv s p = some B → g.θ lv s p = some B := fun lv s p B h => by
      cases lv with
      | zero => simp only [gClean] at h; split at h <;> first | exact h | cases h
      | succ n => exact h
    refine { os := hW.os, tape := hW.tape, output := hW.output, size := hW.size, keep := hW.keep, rng := fun lv s p B h => hW.rng _ _ _ _ (hθ _ _ _ _ h), fresh := fun s p B h => hW.fresh _ _ _ (hθ _ _ _ _ h),
             ext := fun lv s p B h => hW.ext _ _ _ _ (hθ _ _ _ _ h), inj := fun lv s p lv' s' p' B h h' => hW.inj _ _ _ _ _ _ B (hθ _ _ _ _ h) (hθ _ _ _ _ h'), cont := fun lv s b' p ys hb hn => ?_ }
    cases lv with
    | zero =>
      obtain ⟨hks, b, h1, h2⟩ := clean_blk0 hb
      refine Cont.ren (b := b) (cell := stab w0 R) hr (fun v cv h _ => h) (fun p ys hn => hW.cont 0 s b p ys h1 hn) (fun q => by simp only [gClean]; rw [if_pos hks]) (fun _ _ _ => rfl) (b' := b') (by rw [h2]) hn
    | succ n =>
      exact (hW.cont (n + 1) s b' p ys hb hn).level hr (by funext lv s v p; simp only [RefMap.comp, upR, scrubR, Nat.add_eq]; rfl) (fun _ => rfl) (fun _ _ _ => rfl)
  · intro lv s ob hob
    cases lv with
    | zero => rw [show S0.heap 0 = S0.loc from rfl, h0] at hob; simp [Heap.get] at hob
    | succ n =>
      obtain ⟨ob', k1, k2⟩ := hE (n + 1) s ob hob
      exact ⟨ob', k1, k2⟩
  · refine ⟨by show a.tmps.size = (cleanT S kt ks 0 S.tmps).length; rw [cleanT_length]; exact hT.size, fun i v hv => ?_, hT.defers⟩
    obtain ⟨u, h1, h2⟩ := cleanT_get _ _ _ _ (show (cleanT S kt ks 0 S.tmps)[i]? = some v from hv)
    rcases h2 with rfl | rfl
    · exact (hT.val i u h1).ren hr
    · exact .undef _
end
end Go.Ae
namespace Go.Ae
open Go.RowKit
set_option linter.unusedVariables false
set_option linter.unusedSimpArgs false
section
variable {P : Program} {w w' w0 : World} {M : Nat → Nat → Path → Option Nat} {R : Nat → Prop} {S : St} {g : G} {a : Act} {S0 : St} {g0 : G}
theorem renH_get {s t : Nat} : ∀ (h : Heap) (x : Nat), x ≠ s → x ≠ t → (renH S s t h).get x = (h.get x).map fun ob => ob.map fun b => Blk.mapR (renR S s t) b
  | [], x, _, _ => by simp [renH, Heap.get]
  | (y, ob) :: r, x, hs, ht => by
    have ih := renH_get (s := s) (t := t) r x hs ht
    simp only [renH]
    by_cases hys : y = s
    · rw [if_pos hys, ih]
      simp only [Heap.get]
      rw [if_neg (by rw [hys]; exact hs)]
    · rw [if_neg hys]
      by_cases hyt : y = t
      · rw [if_pos hyt, ih]
        simp only [Heap.get]
        rw [if_neg (by rw [hyt]; exact ht)]
      · rw [if_neg hyt]
        simp only [Heap.get]
        by_cases hx : x = y
        · rw [if_pos hx, if_pos hx]; cases ob <;> rfl
        · rw [if_neg hx, if_neg hx]; exact ih
theorem renH_s {s t : Nat} : ∀ (h : Heap), (renH S s t h).get s = none
  | [] => rfl
  | (y, ob) :: r => by
    simp only [renH]
    by_cases hys : y = s
    · rw [if_pos hys]; exact renH_s r
    · rw [if_neg hys]
      by_cases hyt : y = t
      · rw [if_pos hyt]; exact renH_s r
      · rw [if_neg hyt]
        simp only [Heap.get]
        rw [if_neg (fun h => hys h.symm)]; exact renH_s r
def gRen (g : G) (s t : Nat) : G := ⟨fun lv x p => match lv with | 0 => if x = s then none else if x = t then g.θ 0 s p else g.θ 0 x p | n + 1 => g.θ (n + 1) x p, g.κ⟩
theorem ren_get0 (s t x : Nat) : ((S.ren s t).heap 0).get x = if x = t then some (renN S s t) else if x = s then none else (S.loc.get x).map fun ob => ob.map fun b => Blk.mapR (renR S s t) b := by
  show ((renH S s t S.loc).set t (renN S s t)).get x = _
  rw [get_set]
  by_cases h1 : x = t
  · rw [if_pos h1, if_pos h1]
  · rw [if_neg h1, if_neg h1]
    by_cases h2 : x = s
    · rw [if_pos h2, h2]; exact renH_s _
    · rw [if_neg h2]; exact renH_get _ _ h2 h1
theorem renOk_inv {s t : Nat} (h : renOk S s t = true) : s ≠ t ∧ ∃ b, S.blk 0 s = some b := by
  unfold renOk at h
  simp only [Bool.and_eq_true] at h
  exact ⟨by simpa using h.1, Option.isSome_iff_exists.1 h.2⟩
theorem ren_t {s t : Nat} {b : Blk} (hst : s ≠ t) (hb : S.blk 0 s = some b) : ((S.ren s t).heap 0).get t = some (some { Blk.mapR (renR S s t) b with ver := 0 }) := by
  rw [ren_get0, if_pos rfl]
  simp [renN, hb]
theorem ren_o {s t x : Nat} (h1 : x ≠ s) (h2 : x ≠ t) : ((S.ren s t).heap 0).get x = (S.loc.get x).map fun ob => ob.map fun b => Blk.mapR (renR S s t) b := by
  rw [ren_get0, if_neg h2, if_neg h1]
theorem ren_blk0 {s t x : Nat} {b b' : Blk} (hst : s ≠ t) (hb : S.blk 0 s = some b) (h : (S.ren s t).blk 0 x = some b') : x ≠ s ∧ ((x = t ∧ b' = { Blk.mapR (renR S s t) b with ver := 0 }) ∨ (x ≠ t ∧ ∃ c, S.blk 0 x = some c ∧ b' = Blk.mapR (renR S s t) c)) := by
  have := blk_get h
  rw [ren_get0] at this
  by_cases h2 : x = t
  · rw [if_pos h2] at this
    refine ⟨by rw [h2]; exact Ne.symm hst, .inl ⟨h2, ?_⟩⟩
    have h4 := Option.some.inj this
    simp [renN, hb] at h4
    exact h4.symm
  · rw [if_neg h2] at this
    by_cases h1 : x = s
    · rw [if_pos h1] at this; cases this
    rw [if_neg h1] at this
    obtain ⟨ob, h3, h4⟩ := Option.map_eq_some_iff.1 this
    obtain ⟨c, h5, h6⟩ := Option.map_eq_some_iff.1 h4
    subst h5
    exact ⟨h1, .inr ⟨h2, c, get_blk h3, h6.symm⟩⟩
theorem ren_ren (hW : WRel w0 M R S g w) {s t : Nat} {b : Blk} (hst : s ≠ t) (hb : S.blk 0 s = some b) : RenOk (renR S s t) S g (S.ren s t) (gRen g s t) := by
  intro lv x v p lv' x' v' hf hk
  cases lv with
  | succ n =>
    simp only [renR, Option.some.injEq, Prod.mk.injEq] at hf
    obtain ⟨rfl, rfl, rfl⟩ := hf
    obtain ⟨ob, h1, h2⟩ := hk
    exact ⟨⟨ob, h1, h2⟩, fun b' ys' hat => ⟨b', ys', hat, Nat.le_refl _, rfl, rfl, rfl, fun _ _ => rfl⟩⟩
  | zero =>
    simp only [renR] at hf
    by_cases hxs : x = s
    · rw [if_pos hxs, hb] at hf
      subst hxs
      simp only at hf
      split at hf
      · rename_i hv
        cases hf
        have hget := ren_t hst hb
        refine ⟨⟨_, hget, fun b' h => by cases h; exact Nat.le_refl _⟩, fun b' ys' hat => ?_⟩
        obtain ⟨h1, h2, h3⟩ := at_blk hat
        rw [get_blk hget] at h1
        cases h1
        obtain ⟨e1, e2, e3, e4⟩ := mapR_ver (f := renR S x t) b
        have hθ : (gRen g x t).θ 0 t p = g.θ 0 x p := by simp only [gRen]; rw [if_neg (Ne.symm hst), if_pos trivial]
        by_cases hbox : b.box = true
        · have hown := fun i c fl zs => box_own (hW.cont 0 x b [] b.elems hb rfl) hbox (i := i) (c := c) (fl := fl) (zs := zs)
          obtain ⟨rfl, rfl⟩ := box_nav (mapR_own (f := renR S x t) hbox hown) h3
          exact ⟨b, b.elems, at_mk hb hv rfl, by rw [mapR_len]; exact Nat.le_refl _, e2, e2, hθ, fun _ _ => rfl⟩
        · have hbox' : b.box = false := by simpa using hbox
          have h3' : navE b.elems p = some ys' := by rw [show ({ Blk.mapR (renR S x t) b with ver := 0 } : Blk).elems = b.elems by simp [mapR_arr hbox']] at h3; exact h3
          exact ⟨b, ys', at_mk hb hv h3', Nat.le_refl _, e2, by show csz (b.mapR (renR S x t)).sz p ys' = _; rw [e2], hθ, fun _ _ => rfl⟩
      · cases hf
    · rw [if_neg hxs] at hf
      by_cases hxt : x = t
      · rw [if_pos hxt] at hf; cases hf
      rw [if_neg hxt] at hf
      cases hf
      obtain ⟨ob, k1, k2⟩ := hk
      have hget := ren_o (S := S) hxs hxt
      rw [show S.loc.get x = some ob from k1] at hget
      have hθ : (gRen g s t).θ 0 x p = g.θ 0 x p := by simp only [gRen]; rw [if_neg hxs, if_neg hxt]
      refine ⟨⟨_, hget, fun b' h => ?_⟩, fun b' ys' hat => ?_⟩
      · obtain ⟨c, h5, h6⟩ := Option.map_eq_some_iff.1 h
        subst h6
        rw [(mapR_ver (f := renR S s t) c).1]
        exact k2 c h5
      · obtain ⟨h1, h2, h3⟩ := at_blk hat
        rw [show (S.ren s t).blk 0 x = (ob.map fun b => Blk.mapR (renR S s t) b) from by
          cases ob with
          | none => unfold St.blk; rw [hget]; rfl
          | some c => exact get_blk hget] at h1
        obtain ⟨c, h5, h6⟩ := Option.map_eq_some_iff.1 h1
        subst h5 h6
        have hc : S.blk 0 x = some c := get_blk k1
        obtain ⟨e1, e2, e3, e4⟩ := mapR_ver (f := renR S s t) c
        rw [e1] at h2
        by_cases hbox : c.box = true
        · have hown := fun i q fl zs => box_own (hW.cont 0 x c [] c.elems hc rfl) hbox (i := i) (c := q) (fl := fl) (zs := zs)
          obtain ⟨rfl, rfl⟩ := box_nav (mapR_own (f := renR S s t) hbox hown) h3
          exact ⟨c, c.elems, at_mk hc h2 rfl, by rw [mapR_len]; exact Nat.le_refl _, e2, e2, hθ, fun _ _ => rfl⟩
        · have hbox' : c.box = false := by simpa using hbox
          rw [mapR_arr hbox'] at h3
          exact ⟨c, ys', at_mk hc h2 h3, Nat.le_refl _, e2, by rw [e2], hθ, fun _ _ => rfl⟩
theorem Rel.ren (h : Rel w0 M R S0 g0 S g a w) (h0 : S0.loc = []) {s t : Nat} (hok : renOk S s t = true) : Rel w0 M R S0 g0 (S.ren s t) (gRen g s t) a w := by
  obtain ⟨hW, hE, hT⟩ := h
  obtain ⟨hst, b, hb⟩ := renOk_inv hok
  have hr := ren_ren hW hst hb
  have hθ0 : ∀ x p B, (gRen g s t).θ 0 x p = some B → x ≠ s ∧ g.θ 0 (if x = t then s else x) p = some B := fun x p B h => by
    simp only [gRen] at h
    by_cases h1 : x = s
    · rw [if_pos h1] at h; cases h
    rw [if_neg h1] at h
    refine ⟨h1, ?_⟩
    by_cases h2 : x = t
    · rw [if_pos h2] at h ⊢; exact h
    · rw [if_neg h2] at h ⊢; exact h
  have hθ : ∀ lv x p B, (gRen g s t).θ lv x p = some B → ∃ y, g.θ lv y p = some B := fun lv x p B h => by
    cases lv with
    | zero => exact ⟨_, (hθ0 x p B h).2⟩
    | succ n => exact ⟨x, h⟩
  refine ⟨?_, ?_, ?_⟩
  · refine { os := hW.os, tape := hW.tape, output := hW.output, size := hW.size, keep := hW.keep, rng := fun lv x p B h => ?_, fresh := fun x p B h => hW.fresh _ _ _ (hθ0 _ _ _ h).2,
             ext := fun lv x p B h => hW.ext _ x _ _ h, inj := fun lv x p lv' x' p' B h h' => ?_, cont := fun lv x b' p ys hb' hn => ?_ }
    · obtain ⟨y, hy⟩ := hθ _ _ _ _ h
      exact hW.rng _ _ _ _ hy
    · cases lv with
      | zero =>
        obtain ⟨k1, k2⟩ := hθ0 _ _ _ h
        cases lv' with
        | zero =>
          obtain ⟨k3, k4⟩ := hθ0 _ _ _ h'
          obtain ⟨_, q2, q3⟩ := hW.inj _ _ _ _ _ _ B k2 k4
          refine ⟨rfl, ?_, q3⟩
          by_cases h1 : x = t
          · by_cases h2 : x' = t
            · rw [h1, h2]
            · rw [if_pos h1, if_neg h2] at q2; exact absurd q2.symm k3
          · by_cases h2 : x' = t
            · rw [if_neg h1, if_pos h2] at q2; exact absurd q2 k1
            · rw [if_neg h1, if_neg h2] at q2; exact q2
        | succ n =>
          have := (hW.inj _ _ _ _ _ _ B k2 (show g.θ (n + 1) x' p' = some B from h')).1
          omega
      | succ m =>
        cases lv' with
        | zero =>
          obtain ⟨k3, k4⟩ := hθ0 _ _ _ h'
          have := (hW.inj _ _ _ _ _ _ B (show g.θ (m + 1) x p = some B from h) k4).1
          omega
        | succ n => exact hW.inj _ _ _ _ _ _ B (show g.θ (m + 1) x p = some B from h) (show g.θ (n + 1) x' p' = some B from h')
    · cases lv with
      | zero =>
        obtain ⟨k1, k2⟩ := ren_blk0 hst hb hb'
        rcases k2 with ⟨rfl, e⟩ | ⟨k2, c, hc, e⟩
        · exact Cont.ren (b := b) (cell := stab w0 R) hr (fun v cv h _ => h) (fun p ys hn => hW.cont 0 s b p ys hb hn) (fun q => by simp only [gRen]; rw [if_neg k1, if_pos trivial]) (fun _ _ _ => rfl) (b' := b') (by rw [e]) hn
        · exact Cont.ren (b := c) (cell := stab w0 R) hr (fun v cv h _ => h) (fun p ys hn => hW.cont 0 x c p ys hc hn) (fun q => by simp only [gRen]; rw [if_neg k1, if_neg k2]) (fun _ _ _ => rfl) (b' := b') (by rw [e]) hn
      | succ n =>
        exact (hW.cont (n + 1) x b' p ys hb' hn).level hr (by funext lv s v p; simp only [RefMap.comp, upR, renR, Nat.add_eq]; rfl) (fun _ => rfl) (fun _ _ _ => rfl)
  · intro lv s ob hob
    cases lv with
    | zero => rw [show S0.heap 0 = S0.loc from rfl, h0] at hob; simp [Heap.get] at hob
    | succ n =>
      obtain ⟨ob', k1, k2⟩ := hE (n + 1) s ob hob
      exact ⟨ob', k1, k2⟩
  · refine ⟨by show a.tmps.size = (S.tmps.map _).length; rw [List.length_map]; exact hT.size, fun i v hv => ?_, hT.defers⟩
    rw [show (S.ren s t).tmps = S.tmps.map (AV.mapR (renR S s t)) from rfl, List.getElem?_map] at hv
    obtain ⟨u, h1, h2⟩ := Option.map_eq_some_iff.1 hv
    subst h2
    exact (hT.val i u h1).ren hr
end
end Go.Ae
namespace Go.Ae
open Go.RowKit
set_option linter.unusedVariables false
set_option linter.unusedSimpArgs false
section
variable {P : Program} {w w' w0 : World} {M : Nat → Nat → Path → Option Nat} {R : Nat → Prop} {S : St} {g : G} {a : Act} {S0 : St} {g0 : G}

def Ex.out : Ex → Exit
  | .normal => .normal
  | .exit id => .exit id
  | .ret => .ret

/-- What a region of no given order comes to. -/
def DrawWp (P : Program) (md : Nat → Mode) (O : Oracle) (w0 : World) (M : Nat → Nat → Path → Option Nat) (R : Nat → Prop) (S0 : St) (g0 : G) : Prop :=
  ∀ (id : Nat) (ops : Array Oper) (l : List IOp) (b : List Nat) (S : St) (g : G) (a : Act) (w : World) (S' : St) (Q : Exit → Act → World → Prop), cIxs P ops id l → preAll ops.toList [] = b → drawOk md b l = true → coverOk ops.size b l = true →
    Rel w0 M R S0 g0 S g a w → evalOps O md l S = some S' → (∀ a' w' g', Rel w0 M R S0 g0 S' g' a' w' → Q .normal a' w') → (Code.region id ops true).wp P Q a w

theorem least {p : Nat → Prop} (h : ∃ n, p n) : ∃ n, p n ∧ ∀ m, p m → n ≤ m := by
  obtain ⟨n, hn⟩ := h
  induction n using Nat.strongRecOn with
  | _ n ih =>
    by_cases hh : ∃ m, m < n ∧ p m
    · obtain ⟨m, h1, h2⟩ := hh; exact ih m h1 h2
    · exact ⟨n, hn, fun m hm => by
        rcases Nat.lt_or_ge m n with h | h
        · exact absurd ⟨m, h, hm⟩ hh
        · exact h⟩

/-- A loop's rounds: so many. -/
theorem loop_rounds {c : Code} {J : Nat → Act → World → Prop} {Q : Exit → Act → World → Prop} {n : Nat} (h : J n a w) (round : ∀ n a w, J n a w → c.wp P (Exit.then (fun a' w' => ∃ m, m < n ∧ J m a' w') Q) a w) : (Code.loop c).wp P Q a w := by
  classical
  let μ : Act → World → Nat := fun a w => if h : ∃ n, J n a w then Classical.choose (least h) else 0
  refine wp_loop (fun a w => ∃ n, J n a w) μ ⟨n, h⟩ fun a w hJ => ?_
  have hμ : μ a w = Classical.choose (least hJ) := by simp only [μ]; rw [dif_pos hJ]
  obtain ⟨k1, k2⟩ := Classical.choose_spec (least hJ)
  refine wp_mono (round _ a w k1) fun e a' w' he => ?_
  cases e with
  | normal =>
    obtain ⟨m, hm, hJm⟩ := he
    refine ⟨⟨m, hJm⟩, ?_⟩
    have hex : ∃ n, J n a' w' := ⟨m, hJm⟩
    have : μ a' w' = Classical.choose (least hex) := by simp only [μ]; rw [dif_pos hex]
    rw [this, hμ]
    exact Nat.lt_of_le_of_lt ((Classical.choose_spec (least hex)).2 m hJm) hm
  | _ => exact he

theorem exec_wp {md : Nat → Mode} {O : Oracle} (hO : OracleFull P O) (hR : RdW w0 M R) (h0 : S0.loc = []) (hD : DrawWp P md O w0 M R S0 g0) {c : Code} {x : C} (hs : Same P md c x) :
    ∀ (S : St) (g : G) (a : Act) (w : World) (e : Ex) (S' : St) (Q : Exit → Act → World → Prop), Rel w0 M R S0 g0 S g a w → exec O md x S = some (e, S') → (∀ a' w' g', Rel w0 M R S0 g0 S' g' a' w' → Q e.out a' w') → c.wp P Q a w := by
  induction hs with
  | skip =>
    intro S g a w e S' Q h he hQ
    simp only [exec, Option.some.injEq, Prod.mk.injEq] at he
    obtain ⟨rfl, rfl⟩ := he
    exact wp_skip (hQ _ _ g h)
  | plain hc =>
    intro S g a w e S' Q h he hQ
    simp only [exec] at he
    split at he
    · rename_i S1 hS1
      cases he
      exact region_wp hO hR hc h hS1 hQ
    · cases he
  | draw h1 hb h2 h3 =>
    intro S g a w e S' Q h he hQ
    simp only [exec] at he
    split at he
    · rename_i S1 hS1
      cases he
      exact hD _ _ _ _ S g a w _ Q h1 hb h2 h3 h hS1 hQ
    · cases he
  | seq ha hb iha ihb =>
    intro S g a w e S' Q h he hQ
    simp only [exec] at he
    split at he
    · rename_i S1 hS1
      refine wp_seq (iha S g a w .normal S1 _ h hS1 fun a1 w1 g1 h1 => ?_)
      exact ihb S1 g1 a1 w1 e S' Q h1 he hQ
    · rename_i r hr
      refine wp_seq (iha S g a w e S' _ h he fun a1 w1 g1 h1 => ?_)
      cases e with
      | normal => exact absurd he (hr S')
      | exit id => exact hQ a1 w1 g1 h1
      | ret => exact hQ a1 w1 g1 h1
  | cond hx ha hb iha ihb =>
    intro S g a w e S' Q h he hQ
    have hv := evalX_rel (S := S) (g := g) (cell := stab w0 R) hx h.trel
    simp only [exec] at he
    split at he
    · rename_i hb1
      rw [hb1] at hv
      exact wp_cond_true hv.bool_inv (iha S g a w e S' Q h he hQ)
    · rename_i hb1
      rw [hb1] at hv
      exact wp_cond_false hv.bool_inv (ihb S g a w e S' Q h he hQ)
    · cases he
  | block ha iha =>
    rename_i id c x
    intro S g a w e S' Q h he hQ
    simp only [exec] at he
    split at he
    · rename_i j S1 hj
      split at he
      · rename_i hji
        cases he
        refine wp_block (iha S g a w (.exit j) _ _ h hj fun a1 w1 g1 h1 => ?_)
        show (if j = id then _ else _)
        rw [if_pos hji]; exact hQ a1 w1 g1 h1
      · rename_i hji
        cases he
        refine wp_block (iha S g a w (.exit j) _ _ h hj fun a1 w1 g1 h1 => ?_)
        show (if j = id then _ else _)
        rw [if_neg hji]; exact hQ a1 w1 g1 h1
    · rename_i r hr
      refine wp_block (iha S g a w e S' _ h he fun a1 w1 g1 h1 => ?_)
      cases e with
      | normal => exact hQ a1 w1 g1 h1
      | exit j => exact absurd he (hr j S')
      | ret => exact hQ a1 w1 g1 h1
  | loop ha iha =>
    rename_i kt ks c x
    intro S g a w e S' Q h he hQ
    simp only [exec] at he
    refine loop_rounds (J := fun n a w => ∃ S g, Rel w0 M R S0 g0 S g a w ∧ iter (St.clean kt ks) (exec O md x) n S = some (e, S')) ⟨S, g, h, he⟩ fun n a w hJ => ?_
    obtain ⟨S1, g1, h1, hit⟩ := hJ
    cases n with
    | zero => simp [iter] at hit
    | succ n =>
      simp only [iter] at hit
      have hcl := h1.clean h0 kt ks
      split at hit
      · rename_i S2 hS2
        exact iha _ _ a w .normal S2 _ hcl hS2 fun a2 w2 g2 h2 => ⟨n, Nat.lt_succ_self n, S2, g2, h2, hit⟩
      · rename_i r hr
        refine iha _ _ a w e S' _ hcl hit fun a2 w2 g2 h2 => ?_
        cases e with
        | normal => exact absurd hit (hr S')
        | exit j => exact hQ a2 w2 g2 h2
        | ret => exact hQ a2 w2 g2 h2
  | exit =>
    intro S g a w e S' Q h he hQ
    simp only [exec, Option.some.injEq, Prod.mk.injEq] at he
    obtain ⟨rfl, rfl⟩ := he
    exact wp_exit (hQ _ _ g h)
  | ret =>
    intro S g a w e S' Q h he hQ
    simp only [exec, Option.some.injEq, Prod.mk.injEq] at he
    obtain ⟨rfl, rfl⟩ := he
    exact wp_ret (hQ _ _ g h)
  | ren ha iha =>
    rename_i c x s t
    intro S g a w e S' Q h he hQ
    simp only [exec] at he
    split at he
    · rename_i S1 hS1
      split at he
      · rename_i hok
        cases he
        exact iha S g a w .normal S1 _ h hS1 fun a1 w1 g1 h1 => hQ a1 w1 _ (h1.ren h0 hok)
      · cases he
    · rename_i r hr
      refine iha S g a w e S' _ h he fun a1 w1 g1 h1 => ?_
      cases e with
      | normal => exact absurd he (hr S')
      | exit j => exact hQ a1 w1 g1 h1
      | ret => exact hQ a1 w1 g1 h1
  | ifnil hlast h ho hop hx hu hd hg ha hb iha ihb =>
    intro S g a w e S' Q h' he hQ
    simp only [exec] at he
    split at he
    · cases he
    · rename_i r hr
      split at he
      · rename_i S1 hS1
        exact absurd (by rw [hS1]) (hr S1)
      · cases he
theorem slice_inv {cell : Addr → Option Value} {v : AV} {cv : Value} (h : VRel S g cell v cv) (hs : v.slice = true) : ∃ A l c, cv = .slice A l c := by
  cases h with
  | nil => exact ⟨_, _, _, rfl⟩
  | rd fl xs v h => cases h; exact ⟨_, _, _, rfl⟩
  | sl lv s ver p off len v hk hv h => exact hv
  | _ => simp [AV.slice] at hs

theorem nonNil_inv {cell : Addr → Option Value} {v : AV} {A : Option Addr} {l c : Nat} (h : VRel S g cell v (.slice A l c)) (hn : nonNil S v = true) : A ≠ none := by
  cases v with
  | rd fl xs =>
    cases xs with
    | nil => simp [nonNil] at hn
    | cons r xs =>
      cases r with
      | nil => simp [nonNil] at hn
      | cons u r =>
        cases h with
        | rd _ _ _ h =>
          cases h with
          | rd _ _ _ _ sz cv h2 hsz hfl hc hr =>
            obtain ⟨a, h3, _⟩ := hc 0 0 u (by simp [cellAt])
            rw [h3]; simp
  | sl lv s ver p off len =>
    simp only [nonNil, Bool.and_eq_true, decide_eq_true_eq] at hn
    obtain ⟨⟨b, ys⟩, hat⟩ := Option.isSome_iff_exists.1 hn.2
    cases h with
    | sl _ _ _ _ _ _ _ hk hv h =>
      obtain ⟨A', cap, h1, h2, h3, h4⟩ := h b ys hat
      cases h1
      intro hA
      subst hA
      replace h4 := h4 (.inr (by omega))
      split at h4
      · rcases h4.1 with h5 | h5
        · omega
        · cases h5
      · omega
  | _ => simp [nonNil] at hn

theorem goes_isnil {o : Oper} {op : BinOp} {t ty e : TypeId} {x : Operand} {A : Option Addr} {l c : Nat} {neg : Bool} (hop : op = .eql ∧ neg = false ∨ op = .neq ∧ neg = true) (ho : o.op = .binOp op t x (.const (.slice none 0 0)) ty) (hu : P.underlying t = some (.slice e)) (hv : a.eval x = .slice A l c) :
    ∃ r : Bool, (execOp a.eval o).run P w = .ok (.value (.bool r)) w ∧ (A ≠ none → r = neg) := by
  have hc : a.eval (.const (.slice none 0 0)) = .slice none 0 0 := rfl
  have he : (Op.equalIn 10000 t (.slice A l c) (.slice none 0 0)).run P w = .ok A.isNone w := by
    unfold Op.equalIn
    simp only [Sem.run_bind, run_underlying hu, Result.andThen_ok]
    cases A <;> rfl
  rcases hop with ⟨rfl, rfl⟩ | ⟨rfl, rfl⟩
  · refine ⟨A.isNone, ?_, fun h => by cases A with | none => exact absurd rfl h | some a => rfl⟩
    refine run_of_value (s := do eqGuard .eql t x (.const (.slice none 0 0)) (a.eval x) (a.eval (.const (.slice none 0 0))); binOp .eql t (a.eval x) (a.eval (.const (.slice none 0 0)))) (by unfold execOp; simp only [ho]) ?_
    rw [hc, hv]
    simp only [Sem.run_bind]
    simp [eqGuard, binOp, Op.equal, Op.maxDepth, he]
  · refine ⟨!A.isNone, ?_, fun h => by cases A with | none => exact absurd rfl h | some a => rfl⟩
    refine run_of_value (s := do eqGuard .neq t x (.const (.slice none 0 0)) (a.eval x) (a.eval (.const (.slice none 0 0))); binOp .neq t (a.eval x) (a.eval (.const (.slice none 0 0)))) (by unfold execOp; simp only [ho]) ?_
    rw [hc, hv]
    simp only [Sem.run_bind]
    simp [eqGuard, binOp, Op.equal, Op.maxDepth, he]

theorem bindAll_mem {α β : Type} {f : α → Option (List β)} : ∀ {l : List α} {m : List β}, bindAll f l = some m → ∀ a ∈ l, ∃ k, f a = some k ∧ ∀ b ∈ k, b ∈ m
  | [], m, _, a, ha => by simp at ha
  | x :: r, m, h, a, ha => by
    simp only [bindAll] at h
    split at h
    · rename_i l' m' h1 h2
      cases h
      rcases List.mem_cons.1 ha with rfl | ha
      · exact ⟨l', h1, fun b hb => List.mem_append_left _ hb⟩
      · obtain ⟨k, h3, h4⟩ := bindAll_mem h2 a ha
        exact ⟨k, h3, fun b hb => List.mem_append_right _ (h4 b hb)⟩
    · cases h

theorem execs_wp {md : Nat → Mode} {O : Oracle} (hO : OracleFull P O) (hR : RdW w0 M R) (h0 : S0.loc = []) (hD : DrawWp P md O w0 M R S0 g0) {c : Code} {x : C} (hs : Same P md c x) :
    ∀ (S : St) (g : G) (a : Act) (w : World) (l : List (Ex × St)) (Q : Exit → Act → World → Prop), Rel w0 M R S0 g0 S g a w → execs O md x S = some l → (∀ p ∈ l, ∀ a' w' g', Rel w0 M R S0 g0 p.2 g' a' w' → Q p.1.out a' w') → c.wp P Q a w := by
  have one : ∀ {c : Code} {x : C}, Same P md c x → ∀ (S : St) (g : G) (a : Act) (w : World) (l : List (Ex × St)) (Q : Exit → Act → World → Prop), Rel w0 M R S0 g0 S g a w → (match exec O md x S with | some p => some [p] | none => none) = some l → (∀ p ∈ l, ∀ a' w' g', Rel w0 M R S0 g0 p.2 g' a' w' → Q p.1.out a' w') → c.wp P Q a w := by
    intro c x hs S g a w l Q h he hQ
    split at he
    · rename_i p hp
      cases he
      exact exec_wp hO hR h0 hD hs S g a w p.1 p.2 Q h hp (hQ p (by simp))
    · cases he
  induction hs with
  | skip => exact one .skip
  | plain hc => exact one (.plain hc)
  | draw h1 hb h2 h3 => exact one (.draw h1 hb h2 h3)
  | loop ha => exact one (.loop ha)
  | exit => exact one .exit
  | ret => exact one .ret
  | seq ha hb iha ihb =>
    intro S g a w l Q h he hQ
    simp only [execs] at he
    split at he
    · rename_i l1 hl1
      refine wp_seq (iha S g a w l1 _ h hl1 fun p hp a1 w1 g1 h1 => ?_)
      obtain ⟨k, k1, k2⟩ := bindAll_mem he p hp
      obtain ⟨e, s⟩ := p
      cases e with
      | normal => exact ihb s g1 a1 w1 k Q h1 k1 fun q hq => hQ q (k2 q hq)
      | exit j => cases k1; exact hQ _ (k2 _ (by simp)) a1 w1 g1 h1
      | ret => cases k1; exact hQ _ (k2 _ (by simp)) a1 w1 g1 h1
    · cases he
  | cond hx ha hb iha ihb =>
    intro S g a w l Q h he hQ
    have hv := evalX_rel (S := S) (g := g) (cell := stab w0 R) hx h.trel
    simp only [execs] at he
    split at he
    · rename_i hb1
      rw [hb1] at hv
      exact wp_cond_true hv.bool_inv (iha S g a w l Q h he hQ)
    · rename_i hb1
      rw [hb1] at hv
      exact wp_cond_false hv.bool_inv (ihb S g a w l Q h he hQ)
    · cases he
  | block ha iha =>
    rename_i id c x
    intro S g a w l Q h he hQ
    simp only [execs] at he
    split at he
    · rename_i l1 hl1
      cases he
      refine wp_block (iha S g a w l1 _ h hl1 fun p hp a1 w1 g1 h1 => ?_)
      have := hQ _ (List.mem_map.2 ⟨p, hp, rfl⟩) a1 w1 g1
      obtain ⟨e, s⟩ := p
      cases e with
      | normal => exact this h1
      | ret => exact this h1
      | exit j =>
        show (if j = id then _ else _)
        by_cases hj : j = id
        · simp only [hj, if_true] at this ⊢; exact this h1
        · simp only [hj, if_false] at this ⊢; exact this h1
    · cases he
  | ren ha iha =>
    rename_i c x s t
    intro S g a w l Q h he hQ
    simp only [execs] at he
    split at he
    · rename_i l1 hl1
      refine iha S g a w l1 _ h hl1 fun p hp a1 w1 g1 h1 => ?_
      obtain ⟨k, k1, k2⟩ := bindAll_mem he p hp
      obtain ⟨e, S1⟩ := p
      cases e with
      | normal =>
        have hk1 := k1
        simp only [execs, exec] at hk1
        by_cases hok : renOk S1 s t = true
        · rw [if_pos hok] at hk1
          cases hk1
          exact hQ (.normal, S1.ren s t) (k2 _ (by simp)) a1 w1 _ (h1.ren h0 hok)
        · rw [if_neg hok] at hk1; cases hk1
      | exit j => cases k1; exact hQ _ (k2 _ (by simp)) a1 w1 g1 h1
      | ret => cases k1; exact hQ _ (k2 _ (by simp)) a1 w1 g1 h1
    · cases he
  | ifnil hlast h ho hop hx hu hd hg ha hb iha ihb =>
    rename_i id ops l0 o t op tx ty e x xx ca cb p q neg
    intro S g a w l Q hrel he hQ
    have hne : ops.toList ≠ [] := fun h => by rw [h] at hlast; simp at hlast
    have hops : ops.toList = ops.toList.dropLast ++ [o] := by
      rw [List.getLast?_eq_some_getLast hne, Option.some.injEq] at hlast
      rw [← hlast, List.dropLast_concat_getLast]
    generalize ops.toList.dropLast = pre at hops h
    simp only [execs, exec] at he
    cases hS1 : evalOps O md l0 S with
    | none => simp [hS1] at he
    | some S1 =>
      simp only [hS1, bindAll] at he
      by_cases hsl0 : ((evalX S1 xx).slice && decide (t < S1.tmps.length)) = true
      · have hsl : (evalX S1 xx).slice = true := by simp at hsl0; exact hsl0.1
        have hlt1 : t < S1.tmps.length := by simp at hsl0; exact hsl0.2
        simp only [hsl0, if_true] at he
        have hpre : ops.size = pre.length + 1 := by rw [← Array.length_toList, hops]; simp
        have hget : ∀ j y, pre[j]? = some y → ops[0 + j]? = some y := fun j y hj => by
          have : ops.toList[j]? = some y := by rw [hops, List.getElem?_append_left (List.getElem?_eq_some_iff.1 hj).1]; exact hj
          simpa using this
        have ho1 : ops[pre.length]? = some o := by
          have : ops.toList[pre.length]? = some o := by rw [hops]; simp
          simpa using this
        -- what follows the answer, whichever it is
        have both : (∀ r : Bool, (nonNil S1 (evalX S1 xx) = true → r = neg) → ∀ g1 a2 w2, Rel w0 M R S0 g0 (S1.setT (some t) .undef) g1 a2 w2 → (if r then ca.wp P Q a2 w2 else cb.wp P Q a2 w2)) := by
          intro r hr g1 a2 w2 h2
          by_cases hnn : nonNil S1 (evalX S1 xx) = true
          · have := hr hnn
            subst this
            simp only [hnn, if_true] at he
            cases r with
            | true =>
              simp only [if_true] at he ⊢
              cases hA : execs O md p (S1.setT (some t) .undef) with
              | none => simp [hA] at he
              | some lA => simp only [hA, List.append_nil, Option.some.injEq] at he; subst he; exact iha _ g1 _ _ lA Q h2 hA hQ
            | false =>
              simp only [Bool.false_eq_true, if_false] at he ⊢
              cases hB : execs O md q (S1.setT (some t) .undef) with
              | none => simp [hB] at he
              | some lB => simp only [hB, List.append_nil, Option.some.injEq] at he; subst he; exact ihb _ g1 _ _ lB Q h2 hB hQ
          · simp only [hnn] at he
            cases hA : execs O md p (S1.setT (some t) .undef) with
            | none => simp [hA] at he
            | some lA =>
              cases hB : execs O md q (S1.setT (some t) .undef) with
              | none => simp [hA, hB] at he
              | some lB =>
                simp only [hA, hB, List.append_nil, Bool.false_eq_true, if_false, Option.some.injEq] at he
                subst he
                cases r with
                | true => exact iha _ g1 _ _ lA Q h2 hA fun p hp => hQ p (List.mem_append_left _ hp)
                | false => exact ihb _ g1 _ _ lB Q h2 hB fun p hp => hQ p (List.mem_append_right _ hp)
        refine wp_seq (wp_region ?_)
        rw [hpre, List.range_succ, List.range_eq_range']
        -- the prefix, then the question
        have key : ∀ a1 w1 g1, Rel w0 M R S0 g0 S1 g1 a1 w1 → wpOps P ops (Exit.then (fun a' w' => (Code.cond (.tmp t) ca cb).wp P Q a' w') Q) [pre.length] a1 w1 := fun a1 w1 g1 h1 => by
          rw [wpOps_cons]
          unfold wpOp
          simp only [ho1]
          have hw : Region.wanted o (yielded ops a1.tmps) = true := by unfold Region.wanted; rw [hg]
          rw [if_pos hw]
          have hv := evalX_rel (S := S1) (g := g1) (cell := stab w0 R) hx h1.trel
          obtain ⟨A, len, cp, hcv⟩ := slice_inv hv hsl
          obtain ⟨r, hr, hrn⟩ := goes_isnil (P := P) (w := w1) (a := a1) hop ho hu hcv
          refine .inl ?_
          unfold Oper.wp
          rw [hr]
          simp only [Oper.upon, wpOps]
          have h2 : Rel w0 M R S0 g0 (S1.setT (some t) .undef) g1 (a1.put o.dst (.bool r)) w1 := by
            rw [hd]
            exact ⟨h1.wrel.setT _ _, h1.ext.trans (Ext.setT _ _), h1.trel.put (.undef _)⟩
          have hev : ∀ hlt : t < a1.tmps.size, (a1.put o.dst (.bool r)).eval (.tmp t) = .bool r := fun hlt => by
            rw [hd]; simp [Act.eval, Act.put, hlt]
          have hlt : t < a1.tmps.size := by rw [h1.trel.size]; exact hlt1
          have := both r (fun hnn => hrn (by rw [hcv] at hv; exact nonNil_inv hv hnn)) g1 _ _ h2
          cases r with
          | true => exact wp_cond_true (hev hlt) this
          | false => exact wp_cond_false (hev hlt) this
        exact evalOps_wp_rest hO hR _ [pre.length] pre 0 l0 S g a w S1 hget h hrel hS1 key
      · simp [hsl0] at he
end
end Go.Ae
namespace Go.Ae
open Go.RowKit
set_option linter.unusedVariables false
set_option linter.unusedSimpArgs false
section
variable {P : Program} {w w' w0 : World} {M : Nat → Nat → Path → Option Nat} {R : Nat → Prop} {S : St} {g : G} {a : Act} {S0 : St} {g0 : G}

theorem loadVar_own {t : TypeId} {cv0 : Value} {inf : TypeInfo} {ag : Bool} {lv s ver : Nat} {p : Path} {i c : Nat} {b : Blk} {ys : List (List AV)} {row : List AV} {v : AV} (hW : WRel w0 M R S g w)
    (hi : P.info? t = some inf) (hag : aggT P t = some ag) (h1 : ag = true ∨ inf.size = 1) (hv : VRel S g (stab w0 R) (.ptr lv s ver p i c) cv0) (hat : S.at lv s ver p = some (b, ys)) (hrow : ys[i]? = some row)
    (hl : c + inf.size ≤ row.length) (hof : AV.ofCells ag (outCells lv s ver p i c ((row.drop c).take inf.size)) = some v) : ∃ ad cv, cv0 = .pointer (some ad) ∧ (loadVar t ad).run P w = .ok cv w ∧ VRel S g (stab w0 R) v cv := by
  obtain ⟨B, arr, ty, fz, he, hB, a1, a2, a3, a4, a5, a6, a7⟩ := own_cells hW hat hrow hl (hv.ptr_inv.2 b ys hat)
  let us : Array Value := arr.extract (i * csz b.sz p ys + c) (i * csz b.sz p ys + c + inf.size)
  have hsz : us.size = inf.size := by simp [us]; omega
  have hget : ∀ j, j < inf.size → us.getD j undef = arr.getD (i * csz b.sz p ys + (c + j)) undef := by
    intro j hj
    have e1 : i * csz b.sz p ys + (c + j) = i * csz b.sz p ys + c + j := by omega
    have : i * csz b.sz p ys + c + j < arr.size := by omega
    simp [us, e1, hsz, hj, this, Array.getElem_extract]
  have hvals : VRel S g (stab w0 R) v (if ag then .agg us else us.getD 0 undef) := by
    refine ofCells_rel hof (by rw [outCells_length, hsz]; simp; omega) fun j u hu => ?_
    have hj : j < inf.size := by
      have := (List.getElem?_eq_some_iff.1 hu).1
      rw [outCells_length] at this; simp at this; omega
    have hrj : row[c + j]? = some (row[c + j]'(by omega)) := List.getElem?_eq_getElem _
    obtain ⟨u', hu', hk⟩ := a7 j _ hj hrj
    have hout := outCells_get (lv := lv) (s := s) (ver := ver) (p := p) (i := i) c ((row.drop c).take inf.size) j _ (by simp [List.getElem?_take, hj]; exact hrj)
    rw [hout] at hu
    rw [hget j hj, getD_of hu']
    have := krel_out hW hat (by rw [cellAt_row hrow]; exact hrj) hk
    have hu2 := Option.some.inj hu
    rw [← hu2]
    exact this
  refine ⟨_, if ag then .agg us else us.getD 0 undef, he, ?_, hvals⟩
  refine run_loadVar hi hag h1 hsz fun j hj => ?_
  rw [hsz] at hj
  rw [Addr.add_lit, blk_cell' a1, hget j hj]
  have : i * csz b.sz p ys + c + j < arr.size := by omega
  have e1 : i * csz b.sz p ys + (c + j) = i * csz b.sz p ys + c + j := by omega
  simp [e1, this]

def resVal (tmps : Array Value) : ResultVar → Sem Value
  | .tmp t => pure (tmps.getD t undef)
  | .cell a t => do loadVar t (← asAddr (tmps.getD a undef))

theorem tmp_rel {cell : Addr → Option Value} (hT : TRel S g cell a) (t : Nat) : VRel S g cell (S.tmps.getD t .undef) (a.tmps.getD t undef) := by
  rw [List.getD_eq_getElem?_getD]
  cases h : S.tmps[t]? with
  | none => exact .undef _
  | some v => exact hT.val t v h

theorem resVals_ok (h : Rel w0 M R S0 g0 S g a w) : ∀ (l : List ResultVar) (rs : List RV) (vs : List AV), cR P l = some rs → evalRVs S rs = some vs → ∃ cvs : List Value, (l.mapM (resVal a.tmps)).run P w = .ok cvs w ∧ cvs.length = vs.length ∧ ∀ (i : Nat) (v : AV), vs[i]? = some v → ∃ cv, cvs[i]? = some cv ∧ VRel S g (stab w0 R) v cv
  | [], rs, vs, hc, he => by
    simp only [cR, Option.some.injEq] at hc; subst hc
    simp only [evalRVs, Option.some.injEq] at he; subst he
    exact ⟨[], by simp, rfl, fun i v h => by simp at h⟩
  | r :: l, rs, vs, hc, he => by
    simp only [cR] at hc
    split at hc
    · rename_i x xs hx hxs
      cases hc
      simp only [evalRVs] at he
      split at he
      · rename_i v vs' hv hvs
        cases he
        obtain ⟨cvs, k1, k2, k3⟩ := resVals_ok h l xs vs' hxs hvs
        have one : ∃ cv, (resVal a.tmps r).run P w = .ok cv w ∧ VRel S g (stab w0 R) v cv := by
          cases r with
          | tmp t =>
            cases hx
            simp only [evalRV, Option.some.injEq] at hv
            subst hv
            exact ⟨_, by simp [resVal], tmp_rel h.trel t⟩
          | cell p t =>
            simp only at hx
            split at hx
            · rename_i inf ag hi hag
              split at hx
              · rename_i hcd
                cases hx
                have ht := tmp_rel h.trel p
                simp only [evalRV] at hv
                split at hv
                · rename_i lv s ver q i c hq
                  rw [hq] at ht
                  split at hv
                  · rename_i b ys hat
                    split at hv
                    · rename_i row hrow
                      split at hv
                      · rename_i hl
                        obtain ⟨ad, cv, e1, e2, e3⟩ := loadVar_own (P := P) h.wrel hi hag hcd.2 ht hat hrow hl hv
                        refine ⟨cv, ?_, e3⟩
                        simp [resVal, e1, asAddr, e2]
                      · cases hv
                    · cases hv
                  · cases hv
                · cases hv
              · cases hx
            · cases hx
        obtain ⟨cv, e1, e2⟩ := one
        refine ⟨cv :: cvs, by simp [List.mapM_cons, e1, k1], by simp [k2], fun i u hu => ?_⟩
        cases i with
        | zero => simp at hu; subst hu; exact ⟨cv, rfl, e2⟩
        | succ i => simpa using k3 i u (by simpa using hu)
      · cases he
    · cases hc

def valOf : List AV → AV
  | [v] => v
  | vs => .tup vs
theorem results_ok {fn : Func} {rs : List RV} {vs : List AV} (h : Rel w0 M R S0 g0 S g a w) (hc : cR P fn.results.toList = some rs) (he : evalRVs S rs = some vs) : ∃ cv, (results fn a.tmps).run P w = .ok cv w ∧ VRel S g (stab w0 R) (valOf vs) cv := by
  obtain ⟨cvs, k1, k2, k3⟩ := resVals_ok (P := P) h _ _ _ hc he
  have hrun : (results fn a.tmps).run P w = .ok (if h : cvs.toArray.size = 1 then cvs.toArray[0] else .tuple cvs.toArray) w := by
    have hm : fn.results.mapM (resVal a.tmps) = List.toArray <$> fn.results.toList.mapM (resVal a.tmps) := Array.mapM_eq_mapM_toList
    show (fn.results.mapM (resVal a.tmps) >>= fun vs => pure (if h : vs.size = 1 then vs[0] else .tuple vs)).run P w = _
    rw [hm]
    simp [k1]
  refine ⟨_, hrun, ?_⟩
  by_cases h1 : cvs.length = 1
  · obtain ⟨cv, rfl⟩ := List.length_eq_one_iff.1 h1
    obtain ⟨v, rfl⟩ := List.length_eq_one_iff.1 (k2.symm.trans h1)
    obtain ⟨cv', e1, e2⟩ := k3 0 v rfl
    simp at e1; subst e1
    simpa [valOf] using e2
  · have hne : ∀ v, vs ≠ [v] := fun v hv => h1 (by rw [k2, hv]; rfl)
    rw [dif_neg (by simpa using h1)]
    have : valOf vs = AV.tup vs := by
      unfold valOf
      split
      · exact absurd rfl (hne _)
      · rfl
    rw [this]
    refine .tup vs _ (by simp [k2]) fun i v hv => ?_
    obtain ⟨cv, e1, e2⟩ := k3 i v hv
    rwa [show cvs.toArray.getD i undef = cv by simp [e1]]

theorem outBlks_get {sites : List Nat} : ∀ {l : List Nat} {bs : List Blk}, outBlks S sites l = some bs → bs.length = l.length ∧ ∀ (i s : Nat), l[i]? = some s → ∃ b, S.blk 0 s = some b ∧ bs[i]? = some { Blk.mapR (outR S sites) b with ver := 0 }
  | [], bs, h => by simp [outBlks] at h; subst h; exact ⟨rfl, fun i s h => by simp at h⟩
  | s :: r, bs, h => by
    simp only [outBlks] at h
    split at h
    · rename_i b bs' h1 h2
      cases h
      obtain ⟨e1, e2⟩ := outBlks_get h2
      refine ⟨by simp [e1], fun i t ht => ?_⟩
      cases i with
      | zero => simp at ht; subst ht; exact ⟨b, h1, rfl⟩
      | succ i => simpa using e2 i t (by simpa using ht)
    · cases h

def gOut (g : G) (sites : List Nat) : G := ⟨fun lv s p => match lv with | 0 => (match sites[s]? with | some t => g.θ 0 t p | none => none) | n + 1 => g.θ (n + 1) s p, g.κ⟩

theorem out_blk {sites : List Nat} {bs : List Blk} {E : List Heap} {v : AV} (hb : outBlks S sites sites = some bs) {i : Nat} {b' : Blk} (h : (resSt ⟨v, bs, E⟩).blk 0 i = some b') : ∃ s b, sites[i]? = some s ∧ S.blk 0 s = some b ∧ b' = { Blk.mapR (outR S sites) b with ver := 0 } := by
  obtain ⟨e1, e2⟩ := outBlks_get hb
  rw [res_blk] at h
  have hi := (List.getElem?_eq_some_iff.1 h).1
  simp only at hi
  have hs : sites[i]? = some (sites[i]'(by omega)) := List.getElem?_eq_getElem _
  obtain ⟨b, h1, h2⟩ := e2 i _ hs
  refine ⟨_, b, hs, h1, ?_⟩
  have h' : bs[i]? = some b' := h
  rw [h2] at h'; exact (Option.some.inj h').symm

theorem ren_out (hW : WRel w0 M R S g w) {sites : List Nat} {bs : List Blk} {v : AV} (hb : outBlks S sites sites = some bs) : RenOk (outR S sites) S g (resSt ⟨v, bs, S.ext⟩) (gOut g sites) := by
  intro lv s v' p lv' s' v'' hf hk
  cases lv with
  | succ n =>
    simp only [outR, Option.some.injEq, Prod.mk.injEq] at hf
    obtain ⟨rfl, rfl, rfl⟩ := hf
    obtain ⟨ob, h1, h2⟩ := hk
    exact ⟨⟨ob, h1, h2⟩, fun b' ys' hat => ⟨b', ys', hat, Nat.le_refl _, rfl, rfl, rfl, fun _ _ => rfl⟩⟩
  | zero =>
    simp only [outR] at hf
    split at hf
    · rename_i b hblk
      split at hf
      · rename_i hc
        obtain ⟨hv, hin⟩ := hc
        cases hf
        have hmem : s ∈ sites := by simpa using hin
        have hlt : sites.idxOf s < sites.length := List.idxOf_lt_length_of_mem hmem
        have hsi : sites[sites.idxOf s]? = some s := by rw [List.getElem?_eq_getElem hlt]; exact congrArg some (List.getElem_idxOf hlt)
        obtain ⟨e1, e2⟩ := outBlks_get hb
        obtain ⟨b2, k1, k2⟩ := e2 _ _ hsi
        rw [hblk] at k1; cases k1
        have hget : (resSt ⟨v, bs, S.ext⟩).blk 0 (sites.idxOf s) = some { Blk.mapR (outR S sites) b with ver := 0 } := by rw [res_blk]; exact k2
        refine ⟨⟨_, blk_get hget, fun b' h => by cases h; exact Nat.le_refl _⟩, fun b' ys' hat => ?_⟩
        obtain ⟨h1, h2, h3⟩ := at_blk hat
        rw [hget] at h1
        cases h1
        obtain ⟨e1, e2, e3, e4⟩ := mapR_ver (f := outR S sites) b
        have hθ : (gOut g sites).θ 0 (sites.idxOf s) p = g.θ 0 s p := by simp only [gOut, hsi]
        by_cases hbox : b.box = true
        · have hown := fun i c fl zs => box_own (hW.cont 0 s b [] b.elems hblk rfl) hbox (i := i) (c := c) (fl := fl) (zs := zs)
          obtain ⟨rfl, rfl⟩ := box_nav (mapR_own (f := outR S sites) hbox hown) h3
          exact ⟨b, b.elems, at_mk hblk hv rfl, by rw [mapR_len]; exact Nat.le_refl _, e2, e2, hθ, fun _ _ => rfl⟩
        · have hbox' : b.box = false := by simpa using hbox
          have h3' : navE b.elems p = some ys' := by rw [show ({ Blk.mapR (outR S sites) b with ver := 0 } : Blk).elems = b.elems by simp [mapR_arr hbox']] at h3; exact h3
          exact ⟨b, ys', at_mk hblk hv h3', Nat.le_refl _, e2, by show csz (b.mapR (outR S sites)).sz p ys' = _; rw [e2], hθ, fun _ _ => rfl⟩
      · cases hf
    · cases hf

theorem finish_ok (hW : WRel w0 M R S g w) (hE : Ext S0 g0 S g) (h0 : S0.loc = []) {v : AV} {cv : Value} {r : Res} (hv : VRel S g (stab w0 R) v cv) (hf : finish S v = some r) :
    ∃ g', WRel w0 M R (resSt r) g' w ∧ Ext S0 g0 (resSt r) g' ∧ VRel (resSt r) g' (stab w0 R) r.val cv := by
  unfold finish at hf
  split at hf
  · rename_i hnd
    generalize (reach S 8 v).eraseDups = sites at hf hnd
    split at hf
    · rename_i bs hb
      cases hf
      have hr := ren_out hW (v := v.mapR (outR S sites)) hb
      have hθ : ∀ lv s p B, (gOut g sites).θ lv s p = some B → ∃ t, g.θ lv t p = some B ∧ (lv = 0 → sites[s]? = some t) ∧ (lv ≠ 0 → s = t) := fun lv s p B h => by
        cases lv with
        | zero =>
          simp only [gOut] at h
          split at h
          · rename_i t ht; exact ⟨t, h, fun _ => ht, fun h => absurd rfl h⟩
          · cases h
        | succ n => exact ⟨s, h, (fun h => by cases h), fun _ => rfl⟩
      refine ⟨gOut g sites, ?_, ?_, hv.ren hr⟩
      · refine { os := hW.os, tape := hW.tape, output := hW.output, size := hW.size, keep := hW.keep, rng := fun lv s p B h => ?_, fresh := fun s p B h => ?_,
                 ext := fun lv s p B h => hW.ext _ _ _ _ h, inj := fun lv s p lv' s' p' B h h' => ?_, cont := fun lv s b' p ys hb' hn => ?_ }
        · obtain ⟨t, h1, _⟩ := hθ _ _ _ _ h; exact hW.rng _ _ _ _ h1
        · obtain ⟨t, h1, _⟩ := hθ _ _ _ _ h; exact hW.fresh _ _ _ h1
        · obtain ⟨t, h1, h2, h3⟩ := hθ _ _ _ _ h
          obtain ⟨t', h1', h2', h3'⟩ := hθ _ _ _ _ h'
          obtain ⟨e1, e2, e3⟩ := hW.inj _ _ _ _ _ _ _ h1 h1'
          subst e1; subst e2; subst e3
          refine ⟨rfl, ?_, rfl⟩
          by_cases hl : lv = 0
          · have q1 := h2 hl; have q2 := h2' hl
            have l1 := (List.getElem?_eq_some_iff.1 q1).1
            exact (List.getElem?_inj l1 hnd).1 (q1.trans q2.symm)
          · rw [h3 hl, h3' hl]
        · cases lv with
          | zero =>
            obtain ⟨t, b, k1, k2, k3⟩ := out_blk hb hb'
            refine Cont.ren (b := b) (cell := stab w0 R) hr (fun v cv h _ => h) (fun p ys hn => hW.cont 0 t b p ys k2 hn) (fun q => by simp only [gOut, k1]) (fun _ _ _ => rfl) (b' := b') (by rw [k3]) hn
          | succ n =>
            exact (hW.cont (n + 1) s b' p ys hb' hn).level hr (by funext lv s v p; simp only [RefMap.comp, upR, outR, Nat.add_eq]; rfl) (fun _ => rfl) (fun _ _ _ => rfl)
      · intro lv s ob hob
        cases lv with
        | zero => rw [show S0.heap 0 = S0.loc from rfl, h0] at hob; simp [Heap.get] at hob
        | succ n =>
          obtain ⟨ob', k1, k2⟩ := hE (n + 1) s ob hob
          exact ⟨ob', k1, k2⟩
    · cases hf
  · cases hf
end
end Go.Ae
namespace Go.Ae
open Go.RowKit
set_option linter.unusedVariables false
set_option linter.unusedSimpArgs false
section
variable {P : Program} {w w' w0 : World} {M : Nat → Nat → Path → Option Nat} {R : Nat → Prop} {S : St} {g : G} {a : Act} {S0 : St} {g0 : G}

theorem Ext.sameHeap {S' : St} (h : ∀ lv, S'.heap lv = S.heap lv) : Ext S g S' g := ExtS.ext fun lv s ob hob => ⟨ob, by rw [h]; exact hob, fun b' hb => ⟨b', hb, Nat.le_refl _, fun _ => ⟨rfl, fun p ys h => ⟨ys, h, Nat.le_refl _, rfl, rfl, fun _ _ => rfl⟩⟩⟩⟩
theorem WRel.sameHeap {S' : St} (hs : ∀ lv, S'.heap lv = S.heap lv) (h : WRel w0 M R S g w) : WRel w0 M R S' g w where
  os := h.os
  tape := h.tape
  output := h.output
  size := h.size
  keep := h.keep
  rng := h.rng
  fresh := h.fresh
  ext := h.ext
  inj := h.inj
  cont := fun lv s b p ys hb hn => (h.cont lv s b p ys (by unfold St.blk at hb ⊢; rw [← hs]; exact hb) hn).mono (Ext.sameHeap hs) (fun _ => rfl) (fun B hB => ⟨rfl, rfl⟩)

theorem start_rel {args : List AV} {E : List Heap} {cargs : Array Value} {n : Nat} (hW : WRel w0 M R ⟨args, [], E⟩ g w) (hv : VRels ⟨args, [], E⟩ g (stab w0 R) args cargs) :
    Rel w0 M R ⟨args, [], E⟩ g ⟨args ++ List.replicate (n - args.length) .skp, [], E⟩ g { tmps := cargs ++ Array.replicate (n - cargs.size) undef, defers := [] } w := by
  have hs : ∀ lv, (⟨args ++ List.replicate (n - args.length) .skp, [], E⟩ : St).heap lv = (⟨args, [], E⟩ : St).heap lv := fun lv => by cases lv <;> rfl
  have hE : Ext ⟨args, [], E⟩ g ⟨args ++ List.replicate (n - args.length) .skp, [], E⟩ g := Ext.sameHeap hs
  refine ⟨hW.sameHeap hs, hE, ⟨by simp [hv.1], fun i v hi => ?_, rfl⟩⟩
  by_cases hlt : i < args.length
  · rw [List.getElem?_append_left hlt] at hi
    have := hv.2 i v hi
    have e : (cargs ++ Array.replicate (n - cargs.size) undef).getD i undef = cargs.getD i undef := by
      have : i < cargs.size := by rw [← hv.1]; exact hlt
      simp [Array.getElem?_append_left this]
    show VRel _ _ _ _ ((cargs ++ Array.replicate (n - cargs.size) undef).getD i undef)
    rw [e]; exact this.mono hE
  · rw [List.getElem?_append_right (by omega), List.getElem?_replicate] at hi
    split at hi
    · rename_i h2
      cases hi
      have e : (cargs ++ Array.replicate (n - cargs.size) undef).getD i undef = undef := by
        have h1 := hv.1
        have h3 : i - cargs.size < n - cargs.size := by omega
        simp [Array.getElem?_append_right (show cargs.size ≤ i by omega), h3]
      show VRel _ _ _ _ ((cargs ++ Array.replicate (n - cargs.size) undef).getD i undef)
      rw [e]; exact .skp
    · cases hi

theorem runF_ok {md : Nat → Mode} {O : Oracle} (hO : OracleFull P O) (hD : ∀ (w0 : World) (M : Nat → Nat → Path → Option Nat) (R : Nat → Prop) (S0 : St) (g0 : G), RdW w0 M R → DrawWp P md O w0 M R S0 g0) {f : Nat} {fn : Func} {F : F} {args : List AV} {E : List Heap} {r : Res}
    (hf : P.funcs[f]? = some fn) (hok : FOk P md fn F) (he : runF O md F args E = some r) : CallOk P f args E r := by
  intro w R g cargs hR hθ hW hv
  obtain ⟨c, hb, hsame⟩ := hok.body
  unfold runF at he
  split at he
  · rename_i hnp
    have hstart := start_rel (n := F.ntmps) hW hv
    split at he
    · rename_i p l hex
      split at he
      · rename_i r' hfin
        split at he
        · rename_i hall
          cases he
          have each : ∀ q ∈ p :: l, finOf F.res q = some r := fun q hq => by
            rcases List.mem_cons.1 hq with rfl | hq
            · exact hfin
            · exact hall q hq
          refine calls_of_wp hf hb ?_
          rw [hok.tmps]
          refine execs_wp hO hR rfl (hD w g.θ R _ g hR) hsame _ g _ w (p :: l) _ hstart hex fun q hq a' w' g' h' => ?_
          have hfq := each q hq
          obtain ⟨e, S'⟩ := q
          have hne : ∀ j, e ≠ .exit j := fun j hj => by rw [hj] at hfq; simp [finOf] at hfq
          have hvs : ∃ vs, evalRVs S' F.res = some vs ∧ finish S' (valOf vs) = some r := by
            have hfq' : (match evalRVs S' F.res with | some [v] => finish S' v | some vs => finish S' (.tup vs) | none => none) = some r := by
              cases e with
              | exit j => exact absurd rfl (hne j)
              | normal => exact hfq
              | ret => exact hfq
            split at hfq'
            · rename_i v hv; exact ⟨_, hv, hfq'⟩
            · rename_i vs hnn hv
              refine ⟨vs, hv, ?_⟩
              unfold valOf
              split
              · exact absurd rfl (hnn _)
              · exact hfq'
            · cases hfq'
          obtain ⟨vs, e1, e2⟩ := hvs
          obtain ⟨cv, k1, k2⟩ := results_ok (P := P) h' hok.res e1
          obtain ⟨g2, q1, q2, q3⟩ := finish_ok h'.wrel h'.ext rfl k2 e2
          have : a'.defers = [] ∧ ∃ v, (results fn a'.tmps).run P w' = .ok v w' ∧ ∃ cv g', Ending.returned v = .returned cv ∧ WRel w g.θ R (resSt r) g' w' ∧ Ext ⟨args, [], E⟩ g (resSt r) g' ∧ VRel (resSt r) g' (stab w R) r.val cv :=
            ⟨h'.trel.defers, cv, k1, cv, g2, rfl, q1, q2, q3⟩
          cases e with
          | normal => exact this
          | ret => exact this
          | exit j => exact absurd rfl (hne j)
        · cases he
      · cases he
    · cases he
  · cases he

structure ProgOk (P : Program) (p : Prog) : Prop where
  fn : ∀ f F, p.nat f = none → p.natR f = none → p.fn f = some F → ∃ fn, P.funcs[f]? = some fn ∧ FOk P p.md fn F ∧ (fn.name == "runtime.NumGoroutine") = false
  nat : ∀ f h args E v bs, p.nat f = some h → h args = some (v, bs) → Enters P f ∧ CallOk P f args E ⟨v, bs, E⟩
  natR : ∀ f h args E r, p.natR f = some h → h args E = some r → Enters P f ∧ CallOk P f args E r

theorem call_full {p : Prog} (hp : ProgOk P p) (hD : ∀ (O : Oracle) (w0 : World) (M : Nat → Nat → Path → Option Nat) (R : Nat → Prop) (S0 : St) (g0 : G), OracleFull P O → RdW w0 M R → DrawWp P p.md O w0 M R S0 g0) : ∀ n, OracleFull P (call p n)
  | 0 => ⟨fun f args E r h => by simp [call] at h, fun f args E r h => by simp [call] at h⟩
  | n + 1 => by
    have ih := call_full hp hD n
    have both : ∀ f args E r, call p (n + 1) f args E = some r → Enters P f ∧ CallOk P f args E r := fun f args E r h => by
      simp only [call] at h
      split at h
      · rename_i nat hnat
        split at h
        · rename_i v bs hv
          cases h
          exact hp.nat f nat args E v bs hnat hv
        · cases h
      · rename_i hnat
        split at h
        · rename_i natR hnatR
          exact hp.natR f natR args E r hnatR h
        rename_i hnatR
        split at h
        · rename_i F hF
          obtain ⟨fn, h1, h2, h3⟩ := hp.fn f F hnat hnatR hF
          obtain ⟨c, hb, _⟩ := h2.body
          exact ⟨⟨fn, h1, h3, by rw [hb]; rfl⟩, runF_ok ih (fun w0 M R S0 g0 => hD _ w0 M R S0 g0 ih) h1 h2 h⟩
        · cases h
    exact ⟨fun f args E r h => (both f args E r h).2, fun f args E r h => (both f args E r h).1⟩
end
end Go.Ae
