/- More of the machine's operations, run: what only computes, and what is read of others' memory. -/
import Derived.Test.YtgmfljabhcamlaaAeRun2
namespace Go.Ae
open Go.RowKit
set_option linter.unusedVariables false
set_option linter.unusedSimpArgs false
section
variable {P : Program} {w w0 : World} {M : Nat → Nat → Path → Option Nat} {R : Nat → Prop} {S : St} {g : G} {a : Act} {o : Oper}

/-- What is read only: its cells lie in the world as it is. -/
structure RdW (w0 : World) (M : Nat → Nat → Path → Option Nat) (R : Nat → Prop) : Prop where
  r : ∀ B, R B → B < w0.heap.size ∧ ∀ lv s p, M lv s p ≠ some B
theorem stab_cell (hR : RdW w0 M R) (hW : WRel w0 M R S g w) {ad : Addr} {v : Value} (h : stab w0 R ad = some v) : w.cell? ad = some v := by
  unfold stab at h
  split at h
  · rename_i hr
    obtain ⟨h1, h2⟩ := hR.r _ hr
    unfold World.cell? at h ⊢
    rw [hW.keep _ h1 h2]
    exact h
  · cases h

theorem goes_load_rd {t : TypeId} {x : Operand} {inf : TypeInfo} {ag : Bool} {cs : List AV} {v : AV} (ho : o.op = .load t x) (hR : RdW w0 M R) (hW : WRel w0 M R S g w)
    (hi : P.info? t = some inf) (hag : aggT P t = some ag) (h1 : ag = true ∨ inf.size = 1) (hv : VRel S g (stab w0 R) (.rptr cs) (a.eval x)) (hl : inf.size ≤ cs.length)
    (hof : AV.ofCells ag (cs.take inf.size) = some v) : Goes P w0 M R S g a w o S v := by
  generalize hx : a.eval x = cv at hv
  cases hv.rptr_inv with
  | rptr ad cs f hc hr =>
    let us : Array Value := ((List.range inf.size).map f).toArray
    have hsz : us.size = inf.size := by simp [us]
    have hget : ∀ j, j < inf.size → us.getD j undef = f j := fun j hj => by simp [us, hj]
    have hvals : VRel S g (stab w0 R) v (if ag then .agg us else us.getD 0 undef) := by
      refine ofCells_rel hof (by rw [hsz]; simp; omega) fun j u hu => ?_
      have hj : j < inf.size := by have := (List.getElem?_eq_some_iff.1 hu).1; simp at this; omega
      rw [hget j hj]
      have hu' : cs[j]? = some u := by simpa [List.getElem?_take, hj] using hu
      exact (hr j u hu').vrel
    refine goes_same (cv := if ag then .agg us else us.getD 0 undef) hW (run_of_value (s := Instr.loadAt t (a.eval x)) (by unfold execOp; simp only [ho]) ?_) hvals
    rw [hx]
    simp only [Instr.loadAt, Instr.sureAddr, Sem.run_bind, Sem.run_pure, Result.andThen_ok]
    refine run_loadVar hi hag h1 hsz fun j hj => ?_
    rw [hsz] at hj
    rw [hget j hj]
    exact stab_cell hR hW (hc j _ (List.getElem?_eq_getElem (by omega)))

theorem goes_nilck_ptr {x : Operand} {lv s ver : Nat} {p : Path} {i c : Nat} {b : Blk} {ys : List (List AV)} (ho : o.op = .nilCheck x) (hW : WRel w0 M R S g w) (hv : VRel S g (stab w0 R) (.ptr lv s ver p i c) (a.eval x))
    (hat : S.at lv s ver p = some (b, ys)) : Goes P w0 M R S g a w o S (.ptr lv s ver p i c) := by
  obtain ⟨B, hB, he⟩ := hv.ptr_inv.2 b ys hat
  exact goes_same hW (by unfold execOp; simp [ho, he]) hv
theorem goes_nilck_rptr {x : Operand} {cs : List AV} (ho : o.op = .nilCheck x) (hW : WRel w0 M R S g w) (hv : VRel S g (stab w0 R) (.rptr cs) (a.eval x)) : Goes P w0 M R S g a w o S (.rptr cs) := by
  generalize hx : a.eval x = cv at hv
  cases hv.rptr_inv with
  | rptr ad cs f hc hr => exact goes_same (cv := .pointer (some ad)) hW (by unfold execOp; simp [ho, hx]) hv
theorem goes_nilck_fn {x : Operand} {f : Nat} {cs : List AV} (ho : o.op = .nilCheck x) (hW : WRel w0 M R S g w) (hv : VRel S g (stab w0 R) (.fn f cs) (a.eval x)) : Goes P w0 M R S g a w o S (.fn f cs) := by
  obtain ⟨arr, he, _⟩ := hv.fn_inv
  exact goes_same hW (by unfold execOp; simp [ho, he]) hv

theorem goes_bin {op : BinOp} {xt yt : TypeId} {x y : Operand} {u v r : AV} (ho : o.op = .binOp op xt x y yt) (hW : WRel w0 M R S g w) (hu : VRel S g (stab w0 R) u (a.eval x)) (hv : VRel S g (stab w0 R) v (a.eval y))
    (he : evalBin op u v = some r) : Goes P w0 M R S g a w o S r := by
  have guard : (eqGuard op xt x y (a.eval x) (a.eval y)).run P w = .ok () w := by
    unfold evalBin at he
    unfold eqGuard
    split at he
    · rw [hu.int_inv, hv.int_inv]; cases op <;> simp
    · rw [hu.str_inv, hv.str_inv]; cases op <;> simp
    · cases he
  suffices h : ∃ cv, (binOp op xt (a.eval x) (a.eval y)).run P w = .ok cv w ∧ VRel S g (stab w0 R) r cv by
    obtain ⟨cv, h1, h2⟩ := h
    exact goes_same hW (run_of_value (s := do eqGuard op xt x y (a.eval x) (a.eval y); binOp op xt (a.eval x) (a.eval y)) (by unfold execOp; simp only [ho]) (by simp [guard, h1])) h2
  unfold evalBin at he
  split at he
  · rename_i k m k' n
    rw [hu.int_inv, hv.int_inv]
    cases op
    case shl =>
      simp only at he
      split at he
      · rename_i h0; cases he
        exact ⟨.int k (k.wrap (m * 2 ^ (Nat.min n.toNat k.bits))), by simp only [binOp, Op.shift, if_neg (show ¬ n < 0 by omega)]; rfl, .int _ _⟩
      · cases he
    case shr =>
      simp only at he
      split at he
      · rename_i h0; cases he
        exact ⟨.int k (m.fdiv (2 ^ (Nat.min n.toNat k.bits))), by simp only [binOp, Op.shift, if_neg (show ¬ n < 0 by omega)]; rfl, .int _ _⟩
      · cases he
    all_goals
      simp only at he
      split at he
      · rename_i hk; subst hk
        first
          | (cases he; done)
          | (cases he; exact ⟨_, by simp only [binOp, Op.intArith, Op.intBits, Op.intCmp, ne_eq, not_true_eq_false, if_false]; rfl, by constructor⟩)
          | (split at he
             · cases he
             · rename_i h0; cases he; exact ⟨_, by simp only [binOp, Op.intDiv, h0, ne_eq, not_true_eq_false, if_false]; rfl, by constructor⟩)
      · cases he
  · rename_i s t
    rw [hu.str_inv, hv.str_inv]
    cases op <;> simp only at he <;> first
      | (cases he; done)
      | (cases he; exact ⟨_, by simp only [binOp, Op.stringOp]; rfl, by constructor⟩)
      | (split at he
         · cases he
         · rename_i h0; cases he; exact ⟨_, by simp only [binOp, Op.stringOp, if_neg h0]; rfl, .str _⟩)
  · cases he

theorem goes_not {t : TypeId} {x : Operand} {b : Bool} (ho : o.op = .unOp .not t x) (hW : WRel w0 M R S g w) (hv : VRel S g (stab w0 R) (.bool b) (a.eval x)) : Goes P w0 M R S g a w o S (.bool (!b)) :=
  goes_same (cv := .bool (!b)) hW (run_of_value (s := Op.unary .not (a.eval x)) (by unfold execOp; simp only [ho]) (by simp [Op.unary, hv.bool_inv])) (.bool _)
theorem goes_neg {t : TypeId} {x : Operand} {k : IntKind} {n : Int} (ho : o.op = .unOp .neg t x) (hW : WRel w0 M R S g w) (hv : VRel S g (stab w0 R) (.int k n) (a.eval x)) : Goes P w0 M R S g a w o S (.int k (k.wrap (0 - n))) :=
  goes_same (cv := .int k (k.wrap (0 - n))) hW (run_of_value (s := Op.unary .neg (a.eval x)) (by unfold execOp; simp only [ho]) (by simp [Op.unary, hv.int_inv, Op.intArith])) (.int _ _)
theorem goes_conv {src dst : TypeId} {x : Operand} {k k' k0 : IntKind} {n : Int} (ho : o.op = .convert src dst x) (h1 : P.underlying src = some (.int k0)) (h2 : P.underlying dst = some (.int k)) (hW : WRel w0 M R S g w)
    (hv : VRel S g (stab w0 R) (.int k' n) (a.eval x)) : Goes P w0 M R S g a w o S (.int k (k.wrap n)) :=
  goes_same (cv := .int k (k.wrap n)) hW (run_of_value (s := convert src dst (a.eval x)) (by unfold execOp; simp only [ho]) (by simp [convert, run_underlying h1, run_underlying h2, hv.int_inv, Conv.intToInt])) (.int _ _)
theorem goes_strid {src dst : TypeId} {x : Operand} {s : ByteArray} (ho : o.op = .convert src dst x) (h1 : P.underlying src = some .string) (h2 : P.underlying dst = some .string) (hW : WRel w0 M R S g w)
    (hv : VRel S g (stab w0 R) (.str s) (a.eval x)) : Goes P w0 M R S g a w o S (.str s) :=
  goes_same (cv := .string s) hW (run_of_value (s := convert src dst (a.eval x)) (by unfold execOp; simp only [ho]) (by simp [convert, run_underlying h1, run_underlying h2, hv.str_inv])) (.str _)

theorem evalXs_rel {cell : Addr → Option Value} (hT : TRel S g cell a) : ∀ {l : List (Operand × TypeId)} {ys : List X}, cXs P l = some ys → (evalXs S ys).length = l.length ∧ ∀ (i : Nat) (v : AV), (evalXs S ys)[i]? = some v → ∃ x : Operand × TypeId, l[i]? = some x ∧ VRel S g cell v (a.eval x.1)
  | [], ys, h => by simp [cXs] at h; subst h; exact ⟨rfl, fun i v h => by simp [evalXs] at h⟩
  | (x, t) :: r, ys, h => by
    simp only [cXs] at h
    split at h
    · rename_i y ys' h1 h2
      cases h
      obtain ⟨a1, a2⟩ := evalXs_rel hT h2
      refine ⟨by simp [evalXs, a1], fun i v hv => ?_⟩
      cases i with
      | zero => simp [evalXs] at hv; subst hv; exact ⟨(x, t), by simp, evalX_rel h1 hT⟩
      | succ i => simpa using a2 i v (by simpa [evalXs] using hv)
    · cases h
theorem goes_mkf {f : Nat} {cap : Array Operand} {ys : List X} (ho : o.op = .makeFunc (.func f) #[] cap) (hW : WRel w0 M R S g w) (hT : TRel S g (stab w0 R) a) (hc : cXs P (cap.toList.map fun x => (x, 0)) = some ys) : Goes P w0 M R S g a w o S (.fn f (evalXs S ys)) := by
  obtain ⟨h1, h2⟩ := evalXs_rel hT hc
  refine goes_same (cv := .func (.func f) #[] (cap.map a.eval)) hW (run_of_value (s := Instr.makeFunc (.func f) ((#[] : Array Operand).map a.eval) (cap.map a.eval)) (by unfold execOp; simp only [ho]) (by simp [Instr.makeFunc])) ?_
  refine .fn f _ _ (by simp [h1]) fun i v hv => ?_
  obtain ⟨x, hx, hr⟩ := h2 i v hv
  simp at hx
  obtain ⟨y, hy, rfl⟩ := hx
  have : (cap.map a.eval).getD i undef = a.eval y := by simp [hy]
  rw [this]; exact hr

theorem bound_rel {d m : Nat} {v : Option AV} {n : Nat} (h : bound d m v = some n) : n ≤ m ∨ (v = none ∧ n = d) := by
  unfold bound at h
  split at h
  · cases h; exact .inr ⟨rfl, rfl⟩
  · split at h
    · cases h; rename_i n0 h0; exact .inl (by omega)
    · cases h
  · cases h
theorem run_bound {d m : Nat} {cell : Addr → Option Value} {x : Option X} {y : Option Operand} {n y0 : Nat} {code : BoundsCode} (hT : TRel S g cell a) (hc : cO P y = some x) (h : bound d m (evalO S x) = some n) (hm : m ≤ y0) (hd : d ≤ m) :
    (match y with | none => (pure d : Sem Nat) | some z => Instr.sliceBound (a.eval z) y0 code).run P w = .ok n w ∧ n ≤ m := by
  cases y with
  | none =>
    simp [cO] at hc; subst hc
    simp [evalO, bound] at h; subst h
    exact ⟨rfl, hd⟩
  | some z =>
    simp only [cO, Option.map_eq_some_iff] at hc
    obtain ⟨z', hz, rfl⟩ := hc
    have hr := evalX_rel (S := S) (g := g) (cell := cell) hz hT
    simp only [evalO] at h
    unfold bound at h
    split at h
    · rename_i hh; simp at hh
    · rename_i k n0 hh
      simp at hh
      rw [hh] at hr
      split at h
      · rename_i h0
        cases h
        refine ⟨?_, by omega⟩
        show (Instr.sliceBound (a.eval z) y0 code).run P w = _
        rw [hr.int_inv]
        simp only [Instr.sliceBound, asIntOf, Sem.run_bind, Sem.run_pure, Result.andThen_ok]
        rw [if_pos ⟨h0.1, by omega⟩]
        rfl
      · cases h
    · cases h
end
end Go.Ae
