/- Two operations of a region change places: what an operation's answer hangs on. -/
import Derived.Test.YtgmfljabhcamlaaAeProg
namespace Go.Ae
open Go.RowKit
set_option linter.unusedVariables false
set_option linter.unusedSimpArgs false
section
variable {S S' : St}

def Agree (S S' : St) (l : List Nat) : Prop := ∀ n ∈ l, S'.tmps.getD n .undef = S.tmps.getD n .undef
theorem Agree.mono {l m : List Nat} (h : Agree S S' l) (hs : ∀ n ∈ m, n ∈ l) : Agree S S' m := fun n hn => h n (hs n hn)
theorem agree_X {x : X} (h : Agree S S' (xTmp x)) : evalX S' x = evalX S x := by
  cases x with
  | t n => exact h n (by simp [xTmp])
  | k v => rfl
theorem agree_O {x : Option X} (h : Agree S S' (oTmp x)) : evalO S' x = evalO S x := by
  cases x with
  | none => rfl
  | some x => simp only [evalO]; rw [agree_X (x := x) h]
theorem agree_Xs {xs : List X} (h : Agree S S' (xs.flatMap xTmp)) : evalXs S' xs = evalXs S xs := by
  induction xs with
  | nil => rfl
  | cons x r ih =>
    simp only [evalXs]
    rw [agree_X (h.mono fun n hn => by simp [hn]), ih (h.mono fun n hn => by simp at hn ⊢; exact .inr hn)]
theorem agree_P {xs : List (Nat × X)} (h : Agree S S' (xs.flatMap fun p => xTmp p.2)) : evalP S' xs = evalP S xs := by
  induction xs with
  | nil => rfl
  | cons x r ih =>
    obtain ⟨i, x⟩ := x
    simp only [evalP]
    rw [agree_X (h.mono fun n hn => by simp [hn]), ih (h.mono fun n hn => by simp at hn ⊢; exact .inr hn)]
theorem agree_fill {ps : List (Nat × Nat × X)} (h : Agree S S' (ps.flatMap fun p => xTmp p.2.2)) (cs : List AV) : fillCells S' cs ps = fillCells S cs ps := by
  induction ps generalizing cs with
  | nil => rfl
  | cons p r ih =>
    obtain ⟨o, n, x⟩ := p
    simp only [fillCells]
    rw [agree_X (h.mono fun n hn => by simp [hn])]
    have := fun cs => ih (h.mono fun n hn => by simp at hn ⊢; exact .inr hn) cs
    simp only [this]

/-- Each block that lies there lies here. -/
def Holds (S S' : St) (lv s : Nat) : Prop := ∀ b, S.blk lv s = some b → S'.blk lv s = some b
theorem at_mono {lv s v : Nat} {p : Path} {r : Blk × List (List AV)} (h : Holds S S' lv s) (he : S.at lv s v p = some r) : S'.at lv s v p = some r := by
  unfold St.at at he ⊢
  cases hb : S.blk lv s with
  | none => simp [hb] at he
  | some b => rw [h b hb]; rw [hb] at he; exact he

theorem mapO_mono {f f' : AV → Option AV} (h : ∀ v r, f v = some r → f' v = some r) : ∀ {l r : List AV}, mapO f l = some r → mapO f' l = some r
  | [], r, he => he
  | v :: l, r, he => by
    simp only [mapO] at he ⊢
    split at he
    · rename_i v' r' h1 h2
      rw [h _ _ h1, mapO_mono h h2]; exact he
    · cases he
theorem reify_mono (h : ∀ lv s, Holds S S' lv s) : ∀ (n : Nat) (v r : AV), reify S n v = some r → reify S' n v = some r
  | 0, v, r, he => by simp [reify] at he
  | n + 1, v, r, he => by
    have ih := reify_mono h n
    cases v with
    | sl lv s ver p off len =>
      simp only [reify] at he ⊢
      cases ha : S.at lv s ver p with
      | none => simp [ha] at he
      | some q => rw [at_mono (h _ _) ha]; rw [ha] at he; exact he
    | ptr lv s ver p i c =>
      simp only [reify] at he ⊢
      cases ha : S.at lv s ver p with
      | none => simp [ha] at he
      | some q =>
        obtain ⟨b, ys⟩ := q
        rw [at_mono (h _ _) ha]; rw [ha] at he
        simp only at he ⊢
        split at he
        · rename_i row hrow
          split at he
          · rename_i hc
            simp only [hc, if_true] at he ⊢
            split at he
            · rename_i hb
              rw [if_pos hb]
              split at he
              · rename_i cs hcs
                rw [mapO_mono ih hcs]; exact he
              · cases he
            · rename_i hb
              rw [if_neg hb]; exact he
          · cases he
        · cases he
    | agg cs =>
      simp only [reify] at he ⊢
      split at he
      · rename_i cs' hcs; rw [mapO_mono ih hcs]; exact he
      · cases he
    | fn f cs =>
      simp only [reify] at he ⊢
      split at he
      · rename_i cs' hcs; rw [mapO_mono ih hcs]; exact he
      · cases he
    | _ => first | exact he | (simp [reify] at he)

/-- A value points into the block. -/
def Points (v : AV) (lv s : Nat) : Prop := (∃ ver p off len, v = .sl lv s ver p off len) ∨ (∃ ver p i c, v = .ptr lv s ver p i c)

theorem evalQ_mono {O : Oracle} {md : Nat → Mode} {base : Nat} {op : I} {r : AV × List (Nat × Blk)} (ht : Agree S S' op.reads)
    (ha : ∀ a, readsAt op = some a → ∀ lv s, Points (evalX S a) lv s → Holds S S' lv s)
    (hn : readsAt op = none → (memOf md op).t = true → ∀ lv s, Holds S S' lv s)
    (hv : (memOf md op).v = true → S'.loc = S.loc ∧ S'.ext = S.ext)
    (he : evalQ O md S base op = some r) : evalQ O md S' base op = some r := by
  have place : ∀ {a : X}, readsAt op = some a → (∀ lv s ver p q, (∃ off len, evalX S a = .sl lv s ver p off len) → S.at lv s ver p = some q → S'.at lv s ver p = some q) ∧
      (∀ lv s ver p q, (∃ i c, evalX S a = .ptr lv s ver p i c) → S.at lv s ver p = some q → S'.at lv s ver p = some q) := fun {a} hra =>
    ⟨fun lv s ver p q ⟨off, len, h1⟩ h2 => at_mono (ha a hra lv s (.inl ⟨ver, p, off, len, h1⟩)) h2,
     fun lv s ver p q ⟨i, c, h1⟩ h2 => at_mono (ha a hra lv s (.inr ⟨ver, p, i, c, h1⟩)) h2⟩
  have sub : ∀ {m : List Nat}, (∀ n ∈ m, n ∈ op.reads) → Agree S S' m := fun h => ht.mono h
  cases op with
  | load n ag x =>
    have hx := agree_X (x := x) ht
    obtain ⟨k1, k2⟩ := place rfl
    simp only [evalQ, hx] at he ⊢
    cases hX : evalX S x with
    | ptr lv s ver p i c =>
      simp only [hX] at he ⊢
      cases h2 : S.at lv s ver p with
      | none => simp [h2] at he
      | some q => rw [k2 _ _ _ _ _ ⟨i, c, hX⟩ h2]; rw [h2] at he; exact he
    | _ => simp only [hX] at he ⊢; exact he
  | nilck x =>
    have hx := agree_X (x := x) ht
    obtain ⟨k1, k2⟩ := place rfl
    simp only [evalQ, hx] at he ⊢
    cases hX : evalX S x with
    | ptr lv s ver p i c =>
      simp only [hX] at he ⊢
      cases h2 : S.at lv s ver p with
      | none => simp [h2] at he
      | some q => rw [k2 _ _ _ _ _ ⟨i, c, hX⟩ h2]; rw [h2] at he; exact he
    | _ => simp only [hX] at he ⊢; exact he
  | faddr n x =>
    have hx := agree_X (x := x) ht
    obtain ⟨k1, k2⟩ := place rfl
    simp only [evalQ, hx] at he ⊢
    cases hX : evalX S x with
    | ptr lv s ver p i c =>
      simp only [hX] at he ⊢
      cases h2 : S.at lv s ver p with
      | none => simp [h2] at he
      | some q => rw [k2 _ _ _ _ _ ⟨i, c, hX⟩ h2]; rw [h2] at he; exact he
    | _ => simp only [hX] at he ⊢; exact he
  | b2s x =>
    have hx := agree_X (x := x) ht
    obtain ⟨k1, k2⟩ := place rfl
    simp only [evalQ, hx] at he ⊢
    cases hX : evalX S x with
    | sl lv s ver p i c =>
      simp only [hX] at he ⊢
      cases h2 : S.at lv s ver p with
      | none => simp [h2] at he
      | some q => rw [k1 _ _ _ _ _ ⟨i, c, hX⟩ h2]; rw [h2] at he; exact he
    | _ => simp only [hX] at he ⊢; exact he
  | cut sz x lo hi =>
    have hx := agree_X (x := x) (sub fun n hn => by simp [I.reads, hn])
    have hlo := agree_O (x := lo) (sub fun n hn => by simp [I.reads, hn])
    have hhi := agree_O (x := hi) (sub fun n hn => by simp [I.reads, hn])
    obtain ⟨k1, k2⟩ := place rfl
    simp only [evalQ, hx, hlo, hhi] at he ⊢
    cases hX : evalX S x with
    | sl lv s ver p i c =>
      simp only [hX] at he ⊢
      cases h2 : S.at lv s ver p with
      | none => simp [h2] at he
      | some q => rw [k1 _ _ _ _ _ ⟨i, c, hX⟩ h2]; rw [h2] at he; exact he
    | _ => simp only [hX] at he ⊢; exact he
  | iaddr sz x i =>
    have hx := agree_X (x := x) (sub fun n hn => by simp [I.reads, hn])
    have hi := agree_X (x := i) (sub fun n hn => by simp [I.reads, hn])
    obtain ⟨k1, k2⟩ := place rfl
    simp only [evalQ, hx, hi] at he ⊢
    cases hX : evalX S x with
    | sl lv s ver p o c =>
      simp only [hX] at he ⊢
      cases hI : evalX S i with
      | int k n =>
        simp only [hI] at he ⊢
        split at he
        · rename_i hn
          rw [if_pos hn]
          cases h2 : S.at lv s ver p with
          | none => simp [h2] at he
          | some q => rw [k1 _ _ _ _ _ ⟨o, c, hX⟩ h2]; rw [h2] at he; exact he
        · cases he
      | _ => simp only [hI] at he ⊢; exact he
    | rd fl xs => simp only [hX] at he ⊢; cases hI : evalX S i <;> simp only [hI] at he ⊢ <;> exact he
    | _ => simp only [hX] at he ⊢; exact he
  | len str x =>
    have hx := agree_X (x := x) ht
    cases str with
    | true => simp only [evalQ, hx] at he ⊢; exact he
    | false =>
      obtain ⟨k1, k2⟩ := place rfl
      simp only [evalQ, hx] at he ⊢
      cases hX : evalX S x with
      | sl lv s ver p i c =>
        simp only [hX] at he ⊢
        cases h2 : S.at lv s ver p with
        | none => simp [h2] at he
        | some q => rw [k1 _ _ _ _ _ ⟨i, c, hX⟩ h2]; rw [h2] at he; exact he
      | _ => simp only [hX] at he ⊢; exact he
  | call f args fl =>
    have hx := agree_Xs (xs := args) ht
    simp only [evalQ, hx] at he ⊢
    cases hm : md f with
    | val =>
      simp only [hm] at he ⊢
      have hh := hn rfl (by simp [memOf, hm])
      unfold callVal at he ⊢
      split at he
      · rename_i as has
        rw [mapO_mono (reify_mono hh 8) has]; exact he
      · cases he
    | view =>
      simp only [hm] at he ⊢
      obtain ⟨k1, k2⟩ := hv (by simp [memOf, hm])
      unfold callView at he ⊢
      rw [k1, k2]; exact he
    | ref => simp [hm] at he
  | mv x => rw [evalQ, agree_X (x := x) ht]; exact he
  | nil0 fl sz => exact he
  | pick c a b =>
    simp only [evalQ, agree_X (x := c) (sub fun n hn => by simp [I.reads, hn]), agree_X (x := a) (sub fun n hn => by simp [I.reads, hn]), agree_X (x := b) (sub fun n hn => by simp [I.reads, hn])] at he ⊢; exact he
  | alloc cs => exact he
  | box x => simp only [evalQ, agree_X (x := x) ht] at he ⊢; exact he
  | build z ps => simp only [evalQ, agree_fill (ps := ps) ht] at he ⊢; exact he
  | bslice fl sz z len ps => simp only [evalQ, agree_P (xs := ps) ht] at he ⊢; exact he
  | store n p x => simp [evalQ] at he
  | bin op x y => simp only [evalQ, agree_X (x := x) (sub fun n hn => by simp [I.reads, hn]), agree_X (x := y) (sub fun n hn => by simp [I.reads, hn])] at he ⊢; exact he
  | eqv neg ag ks x y => simp only [evalQ, agree_X (x := x) (sub fun n hn => by simp [I.reads, hn]), agree_X (x := y) (sub fun n hn => by simp [I.reads, hn])] at he ⊢; exact he
  | not x => simp only [evalQ, agree_X (x := x) ht] at he ⊢; exact he
  | neg x => simp only [evalQ, agree_X (x := x) ht] at he ⊢; exact he
  | conv k x => simp only [evalQ, agree_X (x := x) ht] at he ⊢; exact he
  | strid x => simp only [evalQ, agree_X (x := x) ht] at he ⊢; exact he
  | s2b x => simp only [evalQ, agree_X (x := x) ht] at he ⊢; exact he
  | mkf f cs => simp only [evalQ, agree_Xs (xs := cs) ht] at he ⊢; exact he
  | mksl fl sz b z len cap => simp only [evalQ, agree_X (x := len) (sub fun n hn => by simp [I.reads, hn]), agree_X (x := cap) (sub fun n hn => by simp [I.reads, hn])] at he ⊢; exact he
  | scut x lo hi => simp only [evalQ, agree_X (x := x) (sub fun n hn => by simp [I.reads, hn]), agree_O (x := lo) (sub fun n hn => by simp [I.reads, hn]), agree_O (x := hi) (sub fun n hn => by simp [I.reads, hn])] at he ⊢; exact he
  | field off n ag x => simp only [evalQ, agree_X (x := x) ht] at he ⊢; exact he
  | idx x i => simp only [evalQ, agree_X (x := x) (sub fun n hn => by simp [I.reads, hn]), agree_X (x := i) (sub fun n hn => by simp [I.reads, hn])] at he ⊢; exact he
  | ext x i => simp only [evalQ, agree_X (x := x) ht] at he ⊢; exact he
  | callv x args fl => simp [evalQ] at he
  | app fl sz b s x => simp [evalQ] at he
  | max x y => simp only [evalQ, agree_X (x := x) (sub fun n hn => by simp [I.reads, hn]), agree_X (x := y) (sub fun n hn => by simp [I.reads, hn])] at he ⊢; exact he
  | min x y => simp only [evalQ, agree_X (x := x) (sub fun n hn => by simp [I.reads, hn]), agree_X (x := y) (sub fun n hn => by simp [I.reads, hn])] at he ⊢; exact he

/-- What makes nothing makes nothing. -/
theorem evalQ_none {O : Oracle} {md : Nat → Mode} {base : Nat} {op : I} {v : AV} {n : List (Nat × Blk)} (hk : (memOf md op).k = false)
    (he : evalQ O md S base op = some (v, n)) : n = [] := by
  cases op with
  | nil0 | alloc | box | bslice | s2b | mksl => simp [memOf] at hk
  | call f args fl =>
    simp only [evalQ] at he
    cases hm : md f with
    | val =>
      simp only [hm] at he
      have hfl : fl = true := by simpa [memOf, hm] using hk
      subst hfl
      unfold callVal at he
      cases h1 : mapO (reify S 8) (evalXs S args) with
      | none => simp [h1] at he
      | some as =>
        simp only [h1] at he
        cases h2 : O f as [] with
        | none => simp [h2] at he
        | some r =>
          simp only [h2] at he
          by_cases h3 : r.blks = []
          · simp only [h3] at he
            split at he
            · cases he
            · split at he
              · cases he
              · simp only [Option.some.injEq, Prod.mk.injEq] at he
                exact he.2.symm
          · have : r.blks.isEmpty = false := by cases hb : r.blks with | nil => exact absurd hb h3 | cons => rfl
            simp [this] at he
    | view =>
      simp only [hm] at he
      split at he
      · cases he; rfl
      · cases he
    | ref => simp [hm] at he
  | len str x =>
    cases str <;> simp only [evalQ] at he <;> repeat' (first | (cases he; rfl) | (exfalso; cases he; done) | split at he)
  | _ =>
    simp only [evalQ] at he
    repeat' (first | (cases he; rfl) | (exfalso; cases he; done) | split at he)
end
end Go.Ae
