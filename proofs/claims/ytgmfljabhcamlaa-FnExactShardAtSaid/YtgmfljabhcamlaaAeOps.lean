/- The operations that write nothing: what the evaluator answers, the machine does. -/
import Derived.Test.YtgmfljabhcamlaaAeMem
namespace Go.Ae
open Go.RowKit
set_option linter.unusedVariables false
set_option linter.unusedSimpArgs false

structure TRel (S : St) (g : G) (cell : Addr → Option Value) (a : Act) : Prop where
  size : a.tmps.size = S.tmps.length
  val : ∀ i v, S.tmps[i]? = some v → VRel S g cell v (a.tmps.getD i undef)
  defers : a.defers = []
theorem TRel.mono {S S' : St} {g g' : G} {cell : Addr → Option Value} {a : Act} (h : TRel S g cell a) (he : Ext S g S' g') (ht : S'.tmps = S.tmps) : TRel S' g' cell a :=
  ⟨by rw [ht]; exact h.size, fun i v hv => (h.val i v (by rwa [ht] at hv)).mono he, h.defers⟩

theorem zeroCell_rel {S : St} {g : G} {cell : Addr → Option Value} : ∀ {v : AV} {cv : Value}, zeroCellOk v cv = true → VRel S g cell v cv := by
  intro v cv h
  unfold zeroCellOk at h
  split at h
  · simp at h; obtain ⟨rfl, rfl⟩ := h; exact .int _ _
  · simp at h; subst h; exact .bool _
  · rename_i s s'
    simp at h
    obtain ⟨⟨_, rfl⟩, rfl⟩ := h
    exact .str _
  · exact .nil _ _
  · exact .undef _
  · cases h
theorem zeros_rel {S : St} {g : G} {cell : Addr → Option Value} : ∀ {vs : List AV} {cs : List Value}, zerosOk vs cs = true → vs.length = cs.length ∧ ∀ (i : Nat) (v : AV), vs[i]? = some v → ∃ cv, cs[i]? = some cv ∧ VRel S g cell v cv
  | [], [], _ => ⟨rfl, fun i v h => by simp at h⟩
  | a :: r, b :: s, h => by
    simp only [zerosOk, Bool.and_eq_true] at h
    obtain ⟨h1, h2⟩ := zeros_rel (vs := r) (cs := s) h.2
    refine ⟨by simp [h1], fun i v hv => ?_⟩
    cases i with
    | zero => simp at hv; subst hv; exact ⟨b, by simp, zeroCell_rel h.1⟩
    | succ i => simpa using h2 i v (by simpa using hv)
  | [], _ :: _, h => by simp [zerosOk] at h
  | _ :: _, [], h => by simp [zerosOk] at h

theorem cV_rel {P : Program} {t : TypeId} {v : Value} {av : AV} {S : St} {g : G} {cell : Addr → Option Value} (h : cV P t v = some av) : VRel S g cell av v := by
  unfold cV at h
  split at h
  · cases h; exact .int _ _
  · cases h; exact .bool _
  · cases h; exact .str _
  · split at h
    · cases h; exact .nil _ _
    · cases h
  · rename_i cs
    split at h
    · rename_i zs hz
      split at h
      · rename_i hok
        cases h
        obtain ⟨h1, h2⟩ := zeros_rel (S := S) (g := g) (cell := cell) hok
        refine .agg zs cs (by simpa using h1) fun i v hv => ?_
        obtain ⟨cv, hcv, hr⟩ := h2 i v hv
        have : cs.getD i undef = cv := by
          rw [Array.getElem?_toList] at hcv
          simp [hcv]
        rw [this]; exact hr
      · cases h
    · cases h
  · rename_i vs
    split at h
    · rename_i he
      cases h
      have : vs = #[] := by simpa using he
      subst this
      exact .skp
    · cases h
  · cases h; exact .undef _
  · cases h; exact .undef _
  · cases h
theorem evalX_rel {P : Program} {t : TypeId} {x : Operand} {y : X} {S : St} {g : G} {cell : Addr → Option Value} {a : Act} (h : cX P t x = some y) (hT : TRel S g cell a) : VRel S g cell (evalX S y) (a.eval x) := by
  cases x with
  | tmp n =>
    simp only [cX, Option.some.injEq] at h; subst h
    simp only [evalX, Act.eval]
    by_cases hn : n < S.tmps.length
    · have := hT.val n (S.tmps[n]) (List.getElem?_eq_getElem hn)
      simpa [List.getD, List.getElem?_eq_getElem hn] using this
    · simp [List.getD, List.getElem?_eq_none (Nat.le_of_not_lt hn)]
      exact .undef _
  | const v =>
    simp only [cX, Option.map_eq_some_iff] at h
    obtain ⟨av, hv, rfl⟩ := h
    exact cV_rel hv
  | global g => simp [cX] at h
  | func f =>
    simp only [cX, Option.some.injEq] at h; subst h
    exact .fn f [] #[] rfl (fun i v hv => by simp at hv)

/-- Behind an operation. -/
structure Outc (w0 : World) (M : Nat → Nat → Path → Option Nat) (R : Nat → Prop) (S : St) (g : G) (S' : St) (v : AV) (cv : Value) (w' : World) (g' : G) : Prop where
  wrel : WRel w0 M R S' g' w'
  ext : Ext S g S' g'
  val : VRel S' g' (stab w0 R) v cv
theorem Outc.same {w0 : World} {M : Nat → Nat → Path → Option Nat} {R : Nat → Prop} {S : St} {g : G} {w : World} {v : AV} {cv : Value} (h : WRel w0 M R S g w) (hv : VRel S g (stab w0 R) v cv) : Outc w0 M R S g S v cv w g := ⟨h, .refl _ _, hv⟩

section inv
variable {S : St} {g : G} {cell : Addr → Option Value} {cv : Value}
theorem VRel.int_inv {k : IntKind} {n : Int} (h : VRel S g cell (.int k n) cv) : cv = .int k n := by cases h; rfl
theorem VRel.bool_inv {b : Bool} (h : VRel S g cell (.bool b) cv) : cv = .bool b := by cases h; rfl
theorem VRel.str_inv {s : ByteArray} (h : VRel S g cell (.str s) cv) : cv = .string s := by cases h; rfl
theorem VRel.nil_inv {fl : Bool} {sz : Nat} (h : VRel S g cell (.nil fl sz) cv) : cv = .slice none 0 0 := by cases h; rfl
theorem VRel.rd_inv {fl : Bool} {xs : List (List AV)} (h : VRel S g cell (.rd fl xs) cv) : Rd cell (.rd fl xs) cv := by cases h; assumption
theorem VRel.rptr_inv {cs : List AV} (h : VRel S g cell (.rptr cs) cv) : Rd cell (.rptr cs) cv := by cases h; assumption
theorem VRel.agg_inv {cs : List AV} (h : VRel S g cell (.agg cs) cv) : ∃ arr : Array Value, cv = .agg arr ∧ cs.length = arr.size ∧ ∀ i v, cs[i]? = some v → VRel S g cell v (arr.getD i Go.undef) := by
  cases h with | agg cs arr hl hr => exact ⟨arr, rfl, hl, hr⟩
theorem VRel.tup_inv {cs : List AV} (h : VRel S g cell (.tup cs) cv) : ∃ arr : Array Value, cv = .tuple arr ∧ cs.length = arr.size ∧ ∀ i v, cs[i]? = some v → VRel S g cell v (arr.getD i Go.undef) := by
  cases h with | tup cs arr hl hr => exact ⟨arr, rfl, hl, hr⟩
theorem VRel.fn_inv {f : Nat} {cs : List AV} (h : VRel S g cell (.fn f cs) cv) : ∃ arr : Array Value, cv = .func (.func f) #[] arr ∧ cs.length = arr.size ∧ ∀ i v, cs[i]? = some v → VRel S g cell v (arr.getD i Go.undef) := by
  cases h with | fn f cs arr hl hr => exact ⟨arr, rfl, hl, hr⟩
theorem VRel.sl_inv {lv s ver : Nat} {p : Path} {off len : Nat} (h : VRel S g cell (.sl lv s ver p off len) cv) : KeyOk S lv s ver ∧ ∀ b ys, S.at lv s ver p = some (b, ys) → SlRel g lv s p b ys off len cv := by
  cases h with | sl _ _ _ _ _ _ _ hk _ h => exact ⟨hk, h⟩
theorem VRel.ptr_inv {lv s ver : Nat} {p : Path} {i c : Nat} (h : VRel S g cell (.ptr lv s ver p i c) cv) : KeyOk S lv s ver ∧ ∀ b ys, S.at lv s ver p = some (b, ys) → PtrRel g lv s p b ys i c cv := by
  cases h with | ptr _ _ _ _ _ _ _ hk _ h => exact ⟨hk, h⟩
theorem VRel.skp_inv (h : VRel S g cell .skp cv) : cv = Go.undef := by cases h; rfl

/-- A value that is only read, as a value. -/
theorem Rd.vrel {v : AV} (h : Rd cell v cv) : VRel S g cell v cv := by
  induction h with
  | int k n => exact .int k n
  | bool b => exact .bool b
  | str s => exact .str s
  | undef v => exact .undef v
  | rd fl xs A cap sz cv h2 hsz hfl hc hr _ => exact .rd fl xs _ (.rd fl xs A cap sz cv h2 hsz hfl hc hr)
  | rptr a cs cv hc hr _ => exact .rptr cs _ (.rptr a cs cv hc hr)
  | fn f cs arr hl _ ih => exact .fn f cs arr hl ih
  | agg cs arr hl _ ih => exact .agg cs arr hl ih

/-- The cells of a value. -/
theorem cells_one {v : AV} {ws : List AV} (h : VRel S g cell v cv) (hw : v.cells = some [v]) (hc : v.cells = some ws) (h1 : cv.cells = #[cv]) : ws.length = cv.cells.size ∧ ∀ (i : Nat) (u : AV), ws[i]? = some u → VRel S g cell u (cv.cells.getD i Go.undef) := by
  rw [hw] at hc; cases hc
  rw [h1]
  refine ⟨rfl, fun i u hu => ?_⟩
  cases i with
  | zero => simp at hu; subst hu; simpa using h
  | succ i => simp at hu
theorem cells_rel {v : AV} {ws : List AV} (h : VRel S g cell v cv) (hc : v.cells = some ws) : ws.length = cv.cells.size ∧ ∀ (i : Nat) (u : AV), ws[i]? = some u → VRel S g cell u (cv.cells.getD i Go.undef) := by
  cases h with
  | agg cs arr hl hr => simp only [AV.cells, Option.some.injEq] at hc; subst hc; exact ⟨hl, hr⟩
  | int k n => exact cells_one (.int k n) rfl hc rfl
  | bool b => exact cells_one (.bool b) rfl hc rfl
  | str s => exact cells_one (.str s) rfl hc rfl
  | nil fl sz => exact cells_one (.nil fl sz) rfl hc rfl
  | skp => exact cells_one .skp rfl hc rfl
  | undef v => cases hc
  | rd fl xs _ h => exact cells_one (.rd fl xs _ h) rfl hc (by cases h; rfl)
  | rptr cs _ h => exact cells_one (.rptr cs _ h) rfl hc (by cases h; rfl)
  | sl lv s ver p off len _ hk hv h => exact cells_one (.sl lv s ver p off len _ hk hv h) rfl hc (by obtain ⟨A, l, c, rfl⟩ := hv; rfl)
  | ptr lv s ver p i c _ hk hv h => exact cells_one (.ptr lv s ver p i c _ hk hv h) rfl hc (by obtain ⟨x, rfl⟩ := hv; rfl)
  | fn f cs arr hl hr => exact cells_one (.fn f cs arr hl hr) rfl hc rfl
  | tup cs arr hl hr => cases hc
end inv
end Go.Ae
