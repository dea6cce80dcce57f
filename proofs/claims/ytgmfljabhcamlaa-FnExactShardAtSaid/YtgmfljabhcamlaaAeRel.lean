/- What the evaluator's values and memory say of the machine's; what stays so when the memory changes. -/
import Derived.Test.YtgmfljabhcamlaaAeComp
import Derived.WalkKit
import Derived.Below
namespace Go.Ae
open Go.RowKit
set_option linter.unusedVariables false

/-- Ghosts: which block a place lies in; how many cells a block has. -/
structure G where
  θ : Nat → Nat → Path → Option Nat
  κ : Nat → Nat

/-- What a value that is only read says: 'cell' are the cells that stay. -/
inductive Rd (cell : Addr → Option Value) : AV → Value → Prop
  | int (k : IntKind) (n : Int) : Rd cell (.int k n) (.int k n)
  | bool (b : Bool) : Rd cell (.bool b) (.bool b)
  | str (s : ByteArray) : Rd cell (.str s) (.string s)
  | undef (v : Value) : Rd cell .undef v
  | rd (fl : Bool) (xs : List (List AV)) (A : Option Addr) (cap sz : Nat) (cv : Nat → Nat → Value) (h2 : xs.length ≤ cap) (hsz : ∀ r ∈ xs, r.length = sz)
      (hfl : fl = true → ∀ r ∈ xs, ∀ v ∈ r, v.scal = true)
      (hc : ∀ i c v, cellAt xs i c = some v → ∃ a, A = some a ∧ cell (a.add (i * sz + c)) = some (cv i c))
      (hr : ∀ i c v, cellAt xs i c = some v → Rd cell v (cv i c)) : Rd cell (.rd fl xs) (.slice A xs.length cap)
  | rptr (a : Addr) (cs : List AV) (cv : Nat → Value) (hc : ∀ c v, cs[c]? = some v → cell (a.add c) = some (cv c))
      (hr : ∀ c v, cs[c]? = some v → Rd cell v (cv c)) : Rd cell (.rptr cs) (.pointer (some a))
  | fn (f : Nat) (cs : List AV) (arr : Array Value) (hl : cs.length = arr.size) (hr : ∀ i v, cs[i]? = some v → Rd cell v (arr.getD i undef)) : Rd cell (.fn f cs) (.func (.func f) #[] arr)
  | agg (cs : List AV) (arr : Array Value) (hl : cs.length = arr.size) (hr : ∀ i v, cs[i]? = some v → Rd cell v (arr.getD i undef)) : Rd cell (.agg cs) (.agg arr)

def rowSz : List (List AV) → Nat
  | [] => 0
  | r :: _ => r.length
def csz (sz : Nat) : Path → List (List AV) → Nat
  | [], _ => sz
  | _ :: _, ys => rowSz ys

/-- The site is there, and the reference isn't younger than its block. -/
def KeyOk (S : St) (lv s ver : Nat) : Prop := ∃ ob, (S.heap lv).get s = some ob ∧ ∀ b, ob = some b → ver ≤ b.ver

def SlRel (g : G) (lv s : Nat) (p : Path) (b : Blk) (ys : List (List AV)) (off len : Nat) (v : Value) : Prop :=
  ∃ A cap, v = .slice A len cap ∧ len ≤ cap ∧ off + len ≤ ys.length ∧ match g.θ lv s p with
    | some B => (cap = 0 ∨ A = some ⟨B, off * csz b.sz p ys, none⟩) ∧ (p = [] → (off + cap) * b.sz ≤ g.κ B)
    | none => A = none ∧ cap = 0
def PtrRel (g : G) (lv s : Nat) (p : Path) (b : Blk) (ys : List (List AV)) (i c : Nat) (v : Value) : Prop :=
  ∃ B, g.θ lv s p = some B ∧ v = .pointer (some ⟨B, i * csz b.sz p ys + c, none⟩)

inductive VRel (S : St) (g : G) (cell : Addr → Option Value) : AV → Value → Prop
  | int (k : IntKind) (n : Int) : VRel S g cell (.int k n) (.int k n)
  | bool (b : Bool) : VRel S g cell (.bool b) (.bool b)
  | str (s : ByteArray) : VRel S g cell (.str s) (.string s)
  | nil (fl : Bool) (sz : Nat) : VRel S g cell (.nil fl sz) (.slice none 0 0)
  | skp : VRel S g cell .skp undef
  | undef (v : Value) : VRel S g cell .undef v
  | rd (fl : Bool) (xs : List (List AV)) (v : Value) (h : Rd cell (.rd fl xs) v) : VRel S g cell (.rd fl xs) v
  | rptr (cs : List AV) (v : Value) (h : Rd cell (.rptr cs) v) : VRel S g cell (.rptr cs) v
  | sl (lv s ver : Nat) (p : Path) (off len : Nat) (v : Value) (hk : KeyOk S lv s ver) (hv : ∃ A l c, v = .slice A l c) (h : ∀ b ys, S.at lv s ver p = some (b, ys) → SlRel g lv s p b ys off len v) : VRel S g cell (.sl lv s ver p off len) v
  | ptr (lv s ver : Nat) (p : Path) (i c : Nat) (v : Value) (hk : KeyOk S lv s ver) (hv : ∃ x, v = .pointer x) (h : ∀ b ys, S.at lv s ver p = some (b, ys) → PtrRel g lv s p b ys i c v) : VRel S g cell (.ptr lv s ver p i c) v
  | agg (cs : List AV) (arr : Array Value) (hl : cs.length = arr.size) (hr : ∀ i v, cs[i]? = some v → VRel S g cell v (arr.getD i Go.undef)) : VRel S g cell (.agg cs) (.agg arr)
  | fn (f : Nat) (cs : List AV) (arr : Array Value) (hl : cs.length = arr.size) (hr : ∀ i v, cs[i]? = some v → VRel S g cell v (arr.getD i Go.undef)) : VRel S g cell (.fn f cs) (.func (.func f) #[] arr)
  | tup (cs : List AV) (arr : Array Value) (hl : cs.length = arr.size) (hr : ∀ i v, cs[i]? = some v → VRel S g cell v (arr.getD i Go.undef)) : VRel S g cell (.tup cs) (.tuple arr)

/-- A row of values. -/
def VRels (S : St) (g : G) (cell : Addr → Option Value) (cs : List AV) (arr : Array Value) : Prop := cs.length = arr.size ∧ ∀ i v, cs[i]? = some v → VRel S g cell v (arr.getD i Go.undef)

/-- What an element's cell says. -/
def KRel (cell : Addr → Option Value) (S : St) (g : G) (lv s : Nat) (b : Blk) (p : Path) (i c : Nat) (v : AV) (cv : Value) : Prop := match v with
  | .own fl zs => b.box = false ∧ b.fl = false ∧ (fl = true → ∀ r ∈ zs, ∀ v ∈ r, v.scal = true) ∧ ∃ A cap, cv = .slice A zs.length cap ∧ zs.length ≤ cap ∧ match g.θ lv s (p ++ [(i, c)]) with
    | some B => cap = 0 ∨ A = some ⟨B, 0, none⟩
    | none => A = none ∧ cap = 0
  | v => VRel S g cell (v.mapR (upR lv)) cv ∧ (b.box = false → v.scal = true)

def Free (fz : Nat × Nat) (n : Nat) : Prop := ∀ o, o < n → (decide (fz.1 ≤ o) && decide (o < fz.2)) = false

/-- What the machine holds of one place's content. -/
def Cont (cell : Addr → Option Value) (S : St) (g : G) (w : World) (lv s : Nat) (b : Blk) (p : Path) (ys : List (List AV)) : Prop :=
  (∀ r ∈ ys, r.length = csz b.sz p ys) ∧ (ys ≠ [] → 0 < csz b.sz p ys) ∧ match g.θ lv s p with
    | none => ys = []
    | some B => ∃ arr ty fz, w.heap[B]? = some (.cells arr ty fz) ∧ Free fz arr.size ∧ arr.size = g.κ B ∧ ys.length * csz b.sz p ys ≤ arr.size ∧
      ∀ i c v, cellAt ys i c = some v → ∃ cv, arr[i * csz b.sz p ys + c]? = some cv ∧ KRel cell S g lv s b p i c v cv

open Classical in
/-- The cells of w0 that are read only. -/
noncomputable def stab (w0 : World) (R : Nat → Prop) (a : Addr) : Option Value := if R a.block then w0.cell? a else none

structure WRel (w0 : World) (M : Nat → Nat → Path → Option Nat) (R : Nat → Prop) (S : St) (g : G) (w : World) : Prop where
  os : w.os = w0.os
  tape : w.tape = w0.tape
  output : w.output = w0.output
  size : w0.heap.size ≤ w.heap.size
  keep : ∀ B, B < w0.heap.size → (∀ lv s p, M lv s p ≠ some B) → w.heap[B]? = w0.heap[B]?
  rng : ∀ lv s p B, g.θ lv s p = some B → B < w.heap.size
  fresh : ∀ s p B, g.θ 0 s p = some B → w0.heap.size ≤ B
  ext : ∀ lv s p B, g.θ (lv + 1) s p = some B → M (lv + 1) s p = some B ∨ w0.heap.size ≤ B
  inj : ∀ lv s p lv' s' p' B, g.θ lv s p = some B → g.θ lv' s' p' = some B → lv = lv' ∧ s = s' ∧ p = p'
  cont : ∀ lv s b p ys, S.blk lv s = some b → navE b.elems p = some ys → Cont (stab w0 R) S g w lv s b p ys

/-- What may change of the memory without a reference noticing. -/
def Ext (S : St) (g : G) (S' : St) (g' : G) : Prop := ∀ lv s ob, (S.heap lv).get s = some ob → ∃ ob', (S'.heap lv).get s = some ob' ∧ ∀ b', ob' = some b' →
  ∃ b, ob = some b ∧ b.ver ≤ b'.ver ∧ (b.ver = b'.ver → b'.sz = b.sz ∧ ∀ p ys', navE b'.elems p = some ys' → ∃ ys, navE b.elems p = some ys ∧ ys.length ≤ ys'.length ∧ csz b'.sz p ys' = csz b.sz p ys ∧ g'.θ lv s p = g.θ lv s p ∧ ∀ B, g.θ lv s p = some B → g'.κ B = g.κ B)

theorem at_blk {S : St} {lv s ver : Nat} {p : Path} {b : Blk} {ys : List (List AV)} (h : S.at lv s ver p = some (b, ys)) : S.blk lv s = some b ∧ ver = b.ver ∧ navE b.elems p = some ys := by
  unfold St.at at h
  cases hb : S.blk lv s with
  | none => simp [hb] at h
  | some b0 =>
    simp only [hb] at h
    by_cases hv : ver = b0.ver
    · rw [if_pos hv] at h
      cases hn : navE b0.elems p with
      | none => simp [hn] at h
      | some ys0 => simp [hn] at h; obtain ⟨rfl, rfl⟩ := h; exact ⟨rfl, hv, hn⟩
    · rw [if_neg hv] at h; cases h
theorem at_mk {S : St} {lv s ver : Nat} {p : Path} {b : Blk} {ys : List (List AV)} (h : S.blk lv s = some b) (hv : ver = b.ver) (hn : navE b.elems p = some ys) : S.at lv s ver p = some (b, ys) := by
  unfold St.at; simp [h, hv, hn]
theorem blk_get {S : St} {lv s : Nat} {b : Blk} (h : S.blk lv s = some b) : (S.heap lv).get s = some (some b) := by
  unfold St.blk at h
  split at h
  · rename_i b0 hg; cases h; exact hg
  · cases h
theorem get_blk {S : St} {lv s : Nat} {b : Blk} (h : (S.heap lv).get s = some (some b)) : S.blk lv s = some b := by unfold St.blk; rw [h]

theorem Ext.refl (S : St) (g : G) : Ext S g S g := fun lv s ob h => ⟨ob, h, fun b' hb => ⟨b', hb, Nat.le_refl _, fun _ => ⟨rfl, fun p ys h => ⟨ys, h, Nat.le_refl _, rfl, rfl, fun _ _ => rfl⟩⟩⟩⟩
theorem Ext.trans {S S' S'' : St} {g g' g'' : G} (h : Ext S g S' g') (k : Ext S' g' S'' g'') : Ext S g S'' g'' := by
  intro lv s ob hob
  obtain ⟨ob', h1, h2⟩ := h lv s ob hob
  obtain ⟨ob'', k1, k2⟩ := k lv s ob' h1
  refine ⟨ob'', k1, fun b'' hb'' => ?_⟩
  obtain ⟨b', hb', hle, hsame⟩ := k2 b'' hb''
  obtain ⟨b, hb, hle0, hsame0⟩ := h2 b' hb'
  refine ⟨b, hb, Nat.le_trans hle0 hle, fun hv => ?_⟩
  have hv1 : b.ver = b'.ver := by omega
  have hv2 : b'.ver = b''.ver := by omega
  obtain ⟨e1, f1⟩ := hsame hv2
  obtain ⟨e0, f0⟩ := hsame0 hv1
  refine ⟨e1.trans e0, fun p ys'' hn => ?_⟩
  obtain ⟨ys', a1, a2, a3, a4, a5⟩ := f1 p ys'' hn
  obtain ⟨ys, c1, c2, c3, c4, c5⟩ := f0 p ys' a1
  exact ⟨ys, c1, Nat.le_trans c2 a2, a3.trans c3, a4.trans c4, fun B hB => (a5 B (c4 ▸ hB)).trans (c5 B hB)⟩

theorem KeyOk.mono {S S' : St} {g g' : G} (h : Ext S g S' g') {lv s ver : Nat} (k : KeyOk S lv s ver) : KeyOk S' lv s ver := by
  obtain ⟨ob, h1, h2⟩ := k
  obtain ⟨ob', k1, k2⟩ := h lv s ob h1
  refine ⟨ob', k1, fun b' hb' => ?_⟩
  obtain ⟨b, hb, hle, _⟩ := k2 b' hb'
  exact Nat.le_trans (h2 b hb) hle

theorem SlRel.move {g g' : G} {lv s : Nat} {p : Path} {b b' : Blk} {ys ys' : List (List AV)} {off len : Nat} {v : Value} (h : SlRel g lv s p b ys off len v)
    (hsz : b'.sz = b.sz) (hl : ys.length ≤ ys'.length) (hc : csz b'.sz p ys' = csz b.sz p ys) (hθ : g'.θ lv s p = g.θ lv s p) (hκ : ∀ B, g.θ lv s p = some B → g'.κ B = g.κ B) : SlRel g' lv s p b' ys' off len v := by
  obtain ⟨A, cap, rfl, h1, h2, h3⟩ := h
  refine ⟨A, cap, rfl, h1, Nat.le_trans h2 hl, ?_⟩
  rw [hθ, hc]
  cases hB : g.θ lv s p with
  | none => rw [hB] at h3; exact h3
  | some B => rw [hB] at h3; simp only at h3 ⊢; rw [hsz, hκ B hB]; exact h3
theorem SlRel.move' {g g' : G} {lv s lv' s' : Nat} {p : Path} {b b' : Blk} {ys ys' : List (List AV)} {off len : Nat} {v : Value} (h : SlRel g lv s p b ys off len v)
    (hsz : b'.sz = b.sz) (hl : ys.length ≤ ys'.length) (hc : csz b'.sz p ys' = csz b.sz p ys) (hθ : g'.θ lv' s' p = g.θ lv s p) (hκ : ∀ B, g.θ lv s p = some B → g'.κ B = g.κ B) : SlRel g' lv' s' p b' ys' off len v := by
  obtain ⟨A, cap, rfl, h1, h2, h3⟩ := h
  refine ⟨A, cap, rfl, h1, Nat.le_trans h2 hl, ?_⟩
  rw [hθ, hc]
  cases hB : g.θ lv s p with
  | none => rw [hB] at h3; exact h3
  | some B => rw [hB] at h3; simp only at h3 ⊢; rw [hsz, hκ B hB]; exact h3
theorem PtrRel.move {g g' : G} {lv s : Nat} {p : Path} {b b' : Blk} {ys ys' : List (List AV)} {i c : Nat} {v : Value} (h : PtrRel g lv s p b ys i c v)
    (hc : csz b'.sz p ys' = csz b.sz p ys) (hθ : g'.θ lv s p = g.θ lv s p) : PtrRel g' lv s p b' ys' i c v := by
  obtain ⟨B, h1, h2⟩ := h
  exact ⟨B, hθ.trans h1, by rw [hc]; exact h2⟩

theorem VRel.mono {S S' : St} {g g' : G} {cell : Addr → Option Value} (h : Ext S g S' g') {v : AV} {cv : Value} (k : VRel S g cell v cv) : VRel S' g' cell v cv := by
  induction k with
  | int k n => exact .int k n
  | bool b => exact .bool b
  | str s => exact .str s
  | nil fl sz => exact .nil fl sz
  | skp => exact .skp
  | undef v => exact .undef v
  | rd fl xs v h => exact .rd fl xs v h
  | rptr cs v h => exact .rptr cs v h
  | sl lv s ver p off len v hk hv hs =>
    refine .sl lv s ver p off len v (hk.mono h) hv fun b' ys' hat => ?_
    obtain ⟨hb', hv, hn⟩ := at_blk hat
    obtain ⟨ob, h1, h2⟩ := hk
    obtain ⟨ob', k1, k2⟩ := h lv s ob h1
    rw [blk_get hb'] at k1; cases k1
    obtain ⟨b, hb, hle, hsame⟩ := k2 b' rfl
    have hvv : b.ver = b'.ver := by have := h2 b hb; omega
    obtain ⟨e, f⟩ := hsame hvv
    obtain ⟨ys, c1, c2, c3, c4, c5⟩ := f p ys' hn
    subst hb
    exact (hs b ys (at_mk (get_blk h1) (by omega) c1)).move e c2 c3 c4 c5
  | ptr lv s ver p i c v hk hv hs =>
    refine .ptr lv s ver p i c v (hk.mono h) hv fun b' ys' hat => ?_
    obtain ⟨hb', hv, hn⟩ := at_blk hat
    obtain ⟨ob, h1, h2⟩ := hk
    obtain ⟨ob', k1, k2⟩ := h lv s ob h1
    rw [blk_get hb'] at k1; cases k1
    obtain ⟨b, hb, hle, hsame⟩ := k2 b' rfl
    have hvv : b.ver = b'.ver := by have := h2 b hb; omega
    obtain ⟨e, f⟩ := hsame hvv
    obtain ⟨ys, c1, c2, c3, c4, c5⟩ := f p ys' hn
    subst hb
    exact (hs b ys (at_mk (get_blk h1) (by omega) c1)).move c3 c4
  | agg cs arr hl _ ih => exact .agg cs arr hl ih
  | fn f cs arr hl _ ih => exact .fn f cs arr hl ih
  | tup cs arr hl _ ih => exact .tup cs arr hl ih

theorem KRel.mono {S S' : St} {g g' : G} {cell : Addr → Option Value} (h : Ext S g S' g') {lv s : Nat} {b : Blk} {p : Path} {i c : Nat} {v : AV} {cv : Value} (k : KRel cell S g lv s b p i c v cv)
    (hθ : g'.θ lv s (p ++ [(i, c)]) = g.θ lv s (p ++ [(i, c)])) : KRel cell S' g' lv s b p i c v cv := by
  cases v <;> unfold KRel at k ⊢ <;> first | exact ⟨k.1.mono h, k.2⟩ | (simp only at k ⊢; rw [hθ]; exact k)
end Go.Ae
