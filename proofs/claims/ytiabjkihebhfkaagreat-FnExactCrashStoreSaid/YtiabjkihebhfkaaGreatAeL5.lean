/- Two operations of a region change places: what an operation's answer hangs on. -/
import Derived.Test.YtiabjkihebhfkaaGreatAeL4
import Derived.ChangeArms
import Derived.OpenShut
import Derived.SizedLaws
import Derived.ChangeOld
import Derived.Carry
import Derived.ShutString
namespace Go.Ae
open Go.RowKit
set_option linter.unusedVariables false
set_option linter.unusedSimpArgs false
section
variable {S S' : St}

def Agree (S S' : St) (l : List Nat) : Prop := ∀ n ∈ l, S'.tmps.getD n .undef = S.tmps.getD n .undef
theorem Agree.mono {l m : List Nat} (h : Agree S S' l) (hs : ∀ n ∈ m, n ∈ l) : Agree S S' m := fun n hn => h n (hs n hn)
theorem agree_X {x : X} (h : Agree S S' (xTmp x)) : evalX S' x = evalX S x := by
  cases x with
  | t n => exact h n (by simp [xTmp])
  | k v => rfl
theorem agree_O {x : Option X} (h : Agree S S' (oTmp x)) : evalO S' x = evalO S x := by
  cases x with
  | none => rfl
  | some x => simp only [evalO]; rw [agree_X (x := x) h]
theorem agree_Xs {xs : List X} (h : Agree S S' (xs.flatMap xTmp)) : evalXs S' xs = evalXs S xs := by
  induction xs with
  | nil => rfl
  | cons x r ih =>
    simp only [evalXs]
    rw [agree_X (h.mono fun n hn => by simp [hn]), ih (h.mono fun n hn => by simp at hn ⊢; exact .inr hn)]
theorem agree_P {xs : List (Nat × X)} (h : Agree S S' (xs.flatMap fun p => xTmp p.2)) : evalP S' xs = evalP S xs := by
  induction xs with
  | nil => rfl
  | cons x r ih =>
    obtain ⟨i, x⟩ := x
    simp only [evalP]
    rw [agree_X (h.mono fun n hn => by simp [hn]), ih (h.mono fun n hn => by simp at hn ⊢; exact .inr hn)]
theorem agree_fill {ps : List (Nat × Nat × X)} (h : Agree S S' (ps.flatMap fun p => xTmp p.2.2)) (cs : List AV) : fillCells S' cs ps = fillCells S cs ps := by
  induction ps generalizing cs with
  | nil => rfl
  | cons p r ih =>
    obtain ⟨o, n, x⟩ := p
    simp only [fillCells]
    rw [agree_X (h.mono fun n hn => by simp [hn])]
    have := fun cs => ih (h.mono fun n hn => by simp at hn ⊢; exact .inr hn) cs
    simp only [this]

/-- Each block that lies there lies here. -/
def Holds (S S' : St) (lv s : Nat) : Prop := ∀ b, S.blk lv s = some b → S'.blk lv s = some b
theorem at_mono {lv s v : Nat} {p : Path} {r : Blk × List (List AV)} (h : Holds S S' lv s) (he : S.at lv s v p = some r) : S'.at lv s v p = some r := by
  unfold St.at at he ⊢
  cases hb : S.blk lv s with
  | none => simp [hb] at he
  | some b => rw [h b hb]; rw [hb] at he; exact he

theorem mapO_mono {f f' : AV → Option AV} (h : ∀ v r, f v = some r → f' v = some r) : ∀ {l r : List AV}, mapO f l = some r → mapO f' l = some r
  | [], r, he => he
  | v :: l, r, he => by
    simp only [mapO] at he ⊢
    split at he
    · rename_i v' r' h1 h2
      rw [h _ _ h1, mapO_mono h h2]; exact he
    · cases he
theorem reify_mono (h : ∀ lv s, Holds S S' lv s) : ∀ (n : Nat) (v r : AV), reify S n v = some r → reify S' n v = some r
  | 0, v, r, he => by simp [reify] at he
  | n + 1, v, r, he => by
    have ih := reify_mono h n
    cases v with
    | sl lv s ver p off len =>
      simp only [reify] at he ⊢
      cases ha : S.at lv s ver p with
      | none => simp [ha] at he
      | some q => rw [at_mono (h _ _) ha]; rw [ha] at he; exact he
    | ptr lv s ver p i c =>
      simp only [reify] at he ⊢
      cases ha : S.at lv s ver p with
      | none => simp [ha] at he
      | some q =>
        obtain ⟨b, ys⟩ := q
        rw [at_mono (h _ _) ha]; rw [ha] at he
        simp only at he ⊢
        split at he
        · rename_i row hrow
          split at he
          · rename_i hc
            simp only [hc, if_true] at he ⊢
            split at he
            · rename_i hb
              rw [if_pos hb]
              split at he
              · rename_i cs hcs
                rw [mapO_mono ih hcs]; exact he
              · cases he
            · rename_i hb
              rw [if_neg hb]; exact he
          · cases he
        · cases he
    | agg cs =>
      simp only [reify] at he ⊢
      split at he
      · rename_i cs' hcs; rw [mapO_mono ih hcs]; exact he
      · cases he
    | fn f cs =>
      simp only [reify] at he ⊢
      split at he
      · rename_i cs' hcs; rw [mapO_mono ih hcs]; exact he
      · cases he
    | _ => first | exact he | (simp [reify] at he)

/-- A value points into the block. -/
def Points (v : AV) (lv s : Nat) : Prop := (∃ ver p off len, v = .sl lv s ver p off len) ∨ (∃ ver p i c, v = .ptr lv s ver p i c)

theorem evalQ_mono {O : Oracle} {md : Nat → Mode} {base : Nat} {op : I} {r : AV × List (Nat × Blk)} (ht : Agree S S' op.reads)
    (ha : ∀ a, readsAt op = some a → ∀ lv s, Points (evalX S a) lv s → Holds S S' lv s)
    (hn : readsAt op = none → (memOf md op).t = true → ∀ lv s, Holds S S' lv s)
    (hv : (memOf md op).v = true → S'.loc = S.loc ∧ S'.ext = S.ext)
    (he : evalQ O md S base op = some r) : evalQ O md S' base op = some r := by
  have place : ∀ {a : X}, readsAt op = some a → (∀ lv s ver p q, (∃ off len, evalX S a = .sl lv s ver p off len) → S.at lv s ver p = some q → S'.at lv s ver p = some q) ∧
      (∀ lv s ver p q, (∃ i c, evalX S a = .ptr lv s ver p i c) → S.at lv s ver p = some q → S'.at lv s ver p = some q) := fun {a} hra =>
    ⟨fun lv s ver p q ⟨off, len, h1⟩ h2 => at_mono (ha a hra lv s (.inl ⟨ver, p, off, len, h1⟩)) h2,
     fun lv s ver p q ⟨i, c, h1⟩ h2 => at_mono (ha a hra lv s (.inr ⟨ver, p, i, c, h1⟩)) h2⟩
  have sub : ∀ {m : List Nat}, (∀ n ∈ m, n ∈ op.reads) → Agree S S' m := fun h => ht.mono h
  cases op with
  | load n ag x =>
    have hx := agree_X (x := x) ht
    obtain ⟨k1, k2⟩ := place rfl
    simp only [evalQ, hx] at he ⊢
    cases hX : evalX S x with
    | ptr lv s ver p i c =>
      simp only [hX] at he ⊢
      cases h2 : S.at lv s ver p with
      | none => simp [h2] at he
      | some q => rw [k2 _ _ _ _ _ ⟨i, c, hX⟩ h2]; rw [h2] at he; exact he
    | _ => simp only [hX] at he ⊢; exact he
  | nilck x =>
    have hx := agree_X (x := x) ht
    obtain ⟨k1, k2⟩ := place rfl
    simp only [evalQ, hx] at he ⊢
    cases hX : evalX S x with
    | ptr lv s ver p i c =>
      simp only [hX] at he ⊢
      cases h2 : S.at lv s ver p with
      | none => simp [h2] at he
      | some q => rw [k2 _ _ _ _ _ ⟨i, c, hX⟩ h2]; rw [h2] at he; exact he
    | _ => simp only [hX] at he ⊢; exact he
  | faddr n x =>
    have hx := agree_X (x := x) ht
    obtain ⟨k1, k2⟩ := place rfl
    simp only [evalQ, hx] at he ⊢
    cases hX : evalX S x with
    | ptr lv s ver p i c =>
      simp only [hX] at he ⊢
      cases h2 : S.at lv s ver p with
      | none => simp [h2] at he
      | some q => rw [k2 _ _ _ _ _ ⟨i, c, hX⟩ h2]; rw [h2] at he; exact he
    | _ => simp only [hX] at he ⊢; exact he
  | b2s x =>
    have hx := agree_X (x := x) ht
    obtain ⟨k1, k2⟩ := place rfl
    simp only [evalQ, hx] at he ⊢
    cases hX : evalX S x with
    | sl lv s ver p i c =>
      simp only [hX] at he ⊢
      cases h2 : S.at lv s ver p with
      | none => simp [h2] at he
      | some q => rw [k1 _ _ _ _ _ ⟨i, c, hX⟩ h2]; rw [h2] at he; exact he
    | _ => simp only [hX] at he ⊢; exact he
  | cut sz x lo hi =>
    have hx := agree_X (x := x) (sub fun n hn => by simp [I.reads, hn])
    have hlo := agree_O (x := lo) (sub fun n hn => by simp [I.reads, hn])
    have hhi := agree_O (x := hi) (sub fun n hn => by simp [I.reads, hn])
    obtain ⟨k1, k2⟩ := place rfl
    simp only [evalQ, hx, hlo, hhi] at he ⊢
    cases hX : evalX S x with
    | sl lv s ver p i c =>
      simp only [hX] at he ⊢
      cases h2 : S.at lv s ver p with
      | none => simp [h2] at he
      | some q => rw [k1 _ _ _ _ _ ⟨i, c, hX⟩ h2]; rw [h2] at he; exact he
    | _ => simp only [hX] at he ⊢; exact he
  | cut3 sz x lo hi m =>
    have hx := agree_X (x := x) (sub fun n hn => by simp [I.reads, hn])
    have hm := agree_X (x := m) (sub fun n hn => by simp [I.reads, hn])
    have hlo := agree_O (x := lo) (sub fun n hn => by simp [I.reads, hn])
    have hhi := agree_X (x := hi) (sub fun n hn => by simp [I.reads, hn])
    obtain ⟨k1, k2⟩ := place rfl
    simp only [evalQ, hx, hm, hlo, hhi] at he ⊢
    cases hX : evalX S x with
    | sl lv s ver p i c =>
      cases p with
      | cons _ _ => simp [hX] at he
      | nil =>
        simp only [hX] at he ⊢
        cases hM : evalX S m with
        | int k n =>
          simp only [hM] at he ⊢
          cases h2 : S.at lv s ver [] with
          | none => simp [h2] at he
          | some q => rw [k1 _ _ _ _ _ ⟨i, c, hX⟩ h2]; rw [h2] at he; exact he
        | _ => simp only [hM] at he ⊢; exact he
    | _ => simp only [hX] at he ⊢; exact he
  | clr sz z x => simp [evalQ] at he
  | cutm sz x hi m => simp [evalQ] at he
  | iaddr sz x i =>
    have hx := agree_X (x := x) (sub fun n hn => by simp [I.reads, hn])
    have hi := agree_X (x := i) (sub fun n hn => by simp [I.reads, hn])
    obtain ⟨k1, k2⟩ := place rfl
    simp only [evalQ, hx, hi] at he ⊢
    cases hX : evalX S x with
    | sl lv s ver p o c =>
      simp only [hX] at he ⊢
      cases hI : evalX S i with
      | int k n =>
        simp only [hI] at he ⊢
        split at he
        · rename_i hn
          rw [if_pos hn]
          cases h2 : S.at lv s ver p with
          | none => simp [h2] at he
          | some q => rw [k1 _ _ _ _ _ ⟨o, c, hX⟩ h2]; rw [h2] at he; exact he
        · cases he
      | _ => simp only [hI] at he ⊢; exact he
    | rd fl xs => simp only [hX] at he ⊢; cases hI : evalX S i <;> simp only [hI] at he ⊢ <;> exact he
    | _ => simp only [hX] at he ⊢; exact he
  | len str x =>
    have hx := agree_X (x := x) ht
    cases str with
    | true => simp only [evalQ, hx] at he ⊢; exact he
    | false =>
      obtain ⟨k1, k2⟩ := place rfl
      simp only [evalQ, hx] at he ⊢
      cases hX : evalX S x with
      | sl lv s ver p i c =>
        simp only [hX] at he ⊢
        cases h2 : S.at lv s ver p with
        | none => simp [h2] at he
        | some q => rw [k1 _ _ _ _ _ ⟨i, c, hX⟩ h2]; rw [h2] at he; exact he
      | _ => simp only [hX] at he ⊢; exact he
  | call f args fl =>
    have hx := agree_Xs (xs := args) ht
    simp only [evalQ, hx] at he ⊢
    cases hm : md f with
    | val =>
      simp only [hm] at he ⊢
      have hh := hn rfl (by simp [memOf, hm])
      unfold callVal at he ⊢
      split at he
      · rename_i as has
        rw [mapO_mono (reify_mono hh 8) has]; exact he
      · cases he
    | view =>
      simp only [hm] at he ⊢
      obtain ⟨k1, k2⟩ := hv (by simp [memOf, hm])
      unfold callView at he ⊢
      rw [k1, k2]; exact he
    | ref => simp [hm] at he
  | mv x => rw [evalQ, agree_X (x := x) ht]; exact he
  | nil0 fl sz => exact he
  | pick c a b =>
    simp only [evalQ, agree_X (x := c) (sub fun n hn => by simp [I.reads, hn]), agree_X (x := a) (sub fun n hn => by simp [I.reads, hn]), agree_X (x := b) (sub fun n hn => by simp [I.reads, hn])] at he ⊢; exact he
  | alloc cs => exact he
  | box x => simp only [evalQ, agree_X (x := x) ht] at he ⊢; exact he
  | build z ps => simp only [evalQ, agree_fill (ps := ps) ht] at he ⊢; exact he
  | bslice fl sz z len ps => simp only [evalQ, agree_P (xs := ps) ht] at he ⊢; exact he
  | store n p x => simp [evalQ] at he
  | stm n p x => simp [evalQ] at he
  | apm fl sz b s x => simp [evalQ] at he
  | bsm fl sz z len ps =>
    simp only [evalQ] at he ⊢
    split at he
    · rename_i x
      simp only [agree_X (x := x) (sub fun n hn => by simpa [I.reads] using hn)]
      exact he
    · cases he
  | bin op x y => simp only [evalQ, agree_X (x := x) (sub fun n hn => by simp [I.reads, hn]), agree_X (x := y) (sub fun n hn => by simp [I.reads, hn])] at he ⊢; exact he
  | eqv neg ag ks x y => simp only [evalQ, agree_X (x := x) (sub fun n hn => by simp [I.reads, hn]), agree_X (x := y) (sub fun n hn => by simp [I.reads, hn])] at he ⊢; exact he
  | not x => simp only [evalQ, agree_X (x := x) ht] at he ⊢; exact he
  | neg x => simp only [evalQ, agree_X (x := x) ht] at he ⊢; exact he
  | conv k x => simp only [evalQ, agree_X (x := x) ht] at he ⊢; exact he
  | strid x => simp only [evalQ, agree_X (x := x) ht] at he ⊢; exact he
  | s2b x => simp only [evalQ, agree_X (x := x) ht] at he ⊢; exact he
  | mkf f cs => simp only [evalQ, agree_Xs (xs := cs) ht] at he ⊢; exact he
  | mksl fl sz b z len cap => simp only [evalQ, agree_X (x := len) (sub fun n hn => by simp [I.reads, hn]), agree_X (x := cap) (sub fun n hn => by simp [I.reads, hn])] at he ⊢; exact he
  | scut x lo hi => simp only [evalQ, agree_X (x := x) (sub fun n hn => by simp [I.reads, hn]), agree_O (x := lo) (sub fun n hn => by simp [I.reads, hn]), agree_O (x := hi) (sub fun n hn => by simp [I.reads, hn])] at he ⊢; exact he
  | field off n ag x => simp only [evalQ, agree_X (x := x) ht] at he ⊢; exact he
  | idx x i => simp only [evalQ, agree_X (x := x) (sub fun n hn => by simp [I.reads, hn]), agree_X (x := i) (sub fun n hn => by simp [I.reads, hn])] at he ⊢; exact he
  | ext x i => simp only [evalQ, agree_X (x := x) ht] at he ⊢; exact he
  | callv x args fl => simp [evalQ] at he
  | app fl sz b s x => simp [evalQ] at he
  | max x y => simp only [evalQ, agree_X (x := x) (sub fun n hn => by simp [I.reads, hn]), agree_X (x := y) (sub fun n hn => by simp [I.reads, hn])] at he ⊢; exact he
  | min x y => simp only [evalQ, agree_X (x := x) (sub fun n hn => by simp [I.reads, hn]), agree_X (x := y) (sub fun n hn => by simp [I.reads, hn])] at he ⊢; exact he

/-- What makes nothing makes nothing. -/
theorem evalQ_none {O : Oracle} {md : Nat → Mode} {base : Nat} {op : I} {v : AV} {n : List (Nat × Blk)} (hk : (memOf md op).k = false)
    (he : evalQ O md S base op = some (v, n)) : n = [] := by
  cases op with
  | nil0 | alloc | box | bslice | s2b | mksl | bsm => simp [memOf] at hk
  | call f args fl =>
    simp only [evalQ] at he
    cases hm : md f with
    | val =>
      simp only [hm] at he
      have hfl : fl = true := by simpa [memOf, hm] using hk
      subst hfl
      unfold callVal at he
      cases h1 : mapO (reify S 8) (evalXs S args) with
      | none => simp [h1] at he
      | some as =>
        simp only [h1] at he
        cases h2 : O f as [] with
        | none => simp [h2] at he
        | some r =>
          simp only [h2] at he
          by_cases h3 : r.blks = []
          · simp only [h3] at he
            split at he
            · cases he
            · split at he
              · cases he
              · simp only [Option.some.injEq, Prod.mk.injEq] at he
                exact he.2.symm
          · have : r.blks.isEmpty = false := by cases hb : r.blks with | nil => exact absurd hb h3 | cons => rfl
            simp [this] at he
    | view =>
      simp only [hm] at he
      split at he
      · cases he; rfl
      · cases he
    | ref => simp [hm] at he
  | len str x =>
    cases str <;> simp only [evalQ] at he <;> repeat' (first | (cases he; rfl) | (exfalso; cases he; done) | split at he)
  | _ =>
    simp only [evalQ] at he
    repeat' (first | (cases he; rfl) | (exfalso; cases he; done) | split at he)
end
end Go.Ae
namespace Go.Ae
open Go.RowKit
set_option linter.unusedVariables false
set_option linter.unusedSimpArgs false
section
variable {S S' : St}

def St.wt (S : St) (ts : List AV) : St := { S with tmps := ts }
theorem wt_tmps (ts : List AV) : (S.wt ts).tmps = ts := rfl
theorem wt_wt (ts us : List AV) : (S.wt ts).wt us = S.wt us := rfl
theorem wt_self : S.wt S.tmps = S := rfl
theorem wt_at (ts : List AV) (lv s v : Nat) (p : Path) : (S.wt ts).at lv s v p = S.at lv s v p := rfl
theorem wt_blk (ts : List AV) (lv s : Nat) : (S.wt ts).blk lv s = S.blk lv s := rfl
theorem wt_put (ts : List AV) (lv s : Nat) (b : Option Blk) : (S.wt ts).put lv s b = (S.put lv s b).wt ts := by cases lv <;> rfl
def dset (ts : List AV) (d : Option Nat) (v : AV) : List AV := match d with
  | some d => ts.set d v
  | none => ts
theorem setT_wt (d : Option Nat) (v : AV) : S.setT d v = S.wt (dset S.tmps d v) := by cases d <;> rfl
theorem wt_setT (ts : List AV) (d : Option Nat) (v : AV) : (S.wt ts).setT d v = S.wt (dset ts d v) := by cases d <;> rfl
theorem dset_comm {ts : List AV} {d e : Option Nat} {v u : AV} (h : ∀ x, d = some x → e ≠ some x) : dset (dset ts d v) e u = dset (dset ts e u) d v := by
  cases d with
  | none => rfl
  | some x => cases e with
    | none => rfl
    | some y => exact List.set_comm _ _ fun e => h x rfl (by rw [e])
theorem new_wt {ts : List AV} {s : Nat} {b : Blk} {S1 : St} (h : S.new s b = some S1) : (S.wt ts).new s b = some (S1.wt ts) := by
  unfold St.new at h ⊢
  show (match S.loc.get s with | none => _ | some _ => none) = _
  cases hg : S.loc.get s with
  | none => rw [hg] at h; cases h; rfl
  | some o => rw [hg] at h; cases h
theorem addNews_wt {ts : List AV} : ∀ {n : List (Nat × Blk)} {S S1 : St}, addNews S n = some S1 → addNews (S.wt ts) n = some (S1.wt ts)
  | [], S, S1, h => by cases h; rfl
  | (s, b) :: r, S, S1, h => by
    simp only [addNews] at h ⊢
    cases hn : S.new s b with
    | none => simp [hn] at h
    | some S2 => rw [hn] at h; rw [new_wt hn]; exact addNews_wt h

theorem agree_set {ts : List AV} {d : Option Nat} {v : AV} {l : List Nat} (h : ∀ x, d = some x → x ∉ l) : Agree (S.wt (dset ts d v)) (S'.wt ts) l := fun n hn => by
  cases d with
  | none => rfl
  | some x =>
    have : x ≠ n := fun e => h x rfl (e ▸ hn)
    show ts.getD n .undef = (ts.set x v).getD n .undef
    simp [List.getElem?_set, this]
theorem agree_set' {ts : List AV} {d : Option Nat} {v : AV} {l : List Nat} (h : ∀ x, d = some x → x ∉ l) : Agree (S.wt ts) (S'.wt (dset ts d v)) l := fun n hn => (agree_set (S := S') (S' := S) h n hn).symm

theorem source_wt {ts : List AV} {v : AV} : source (S.wt ts) v = source S v := by cases v <;> rfl
theorem callVal_wt {O : Oracle} {ts : List AV} {base f : Nat} {args : List AV} {fl : Bool} {r} (h : callVal O S base f args fl = some r) : callVal O (S.wt ts) base f args fl = some r := by
  unfold callVal at h ⊢
  cases h1 : mapO (reify S 8) args with
  | none => simp [h1] at h
  | some as => rw [mapO_mono (reify_mono (S := S) (S' := S.wt ts) (fun lv s b hb => hb) 8) h1]; rw [h1] at h; exact h
theorem callRef_wt {O : Oracle} {ts : List AV} {base f : Nat} {args : List AV} {fl : Bool} {v : AV} {S1 : St} (h : callRef O S base f args fl = some (v, S1)) : callRef O (S.wt ts) base f args fl = some (v, S1.wt ts) := by
  unfold callRef at h ⊢
  change (match O f (args.map (AV.mapR shiftR)) (S.loc :: S.ext) with | some r => _ | none => none) = _
  cases h1 : O f (args.map (AV.mapR shiftR)) (S.loc :: S.ext) with
  | none => simp [h1] at h
  | some r =>
    simp only [h1] at h ⊢
    split at h
    · cases h
    · rename_i hb
      rw [if_neg hb]
      cases h2 : r.ext with
      | nil => simp [h2] at h
      | cons l e =>
        simp only [h2] at h ⊢
        cases h3 : addNews { tmps := S.tmps, loc := l, ext := e } (numbered base (r.blks.map (Blk.mapR (injR base)))) with
        | none => simp [h3] at h
        | some S2 =>
          rw [h3] at h
          have h4 : addNews { tmps := ts, loc := l, ext := e } (numbered base (r.blks.map (Blk.mapR (injR base)))) = some (S2.wt ts) := addNews_wt h3
          show (match addNews { tmps := ts, loc := l, ext := e } (numbered base (r.blks.map (Blk.mapR (injR base)))) with | some st' => _ | none => none) = _
          rw [h4]
          simp only [Option.some.injEq, Prod.mk.injEq] at h ⊢
          obtain ⟨rfl, rfl⟩ := h
          exact ⟨rfl, rfl⟩

theorem evalW_wt {O : Oracle} {md : Nat → Mode} {ts : List AV} {base : Nat} {op : I} {v : AV} {S1 : St} (ht : Agree S (S.wt ts) op.reads) (h : evalW O md S base op = some (v, S1)) : evalW O md (S.wt ts) base op = some (v, S1.wt ts) := by
  have sub : ∀ {m : List Nat}, (∀ n ∈ m, n ∈ op.reads) → Agree S (S.wt ts) m := fun h => ht.mono h
  cases op with
  | store n p x =>
    simp only [evalW, agree_X (x := p) (sub fun n hn => by simp [I.reads, hn]), agree_X (x := x) (sub fun n hn => by simp [I.reads, hn])] at h ⊢
    cases hp : evalX S p with
    | ptr lv s ver pa i c =>
      cases hc : (evalX S x).cells with
      | none => simp [hp, hc] at h
      | some ws =>
        simp only [hp, hc, wt_at, wt_put] at h ⊢
        split at h
        · rename_i b ys hat
          split at h
          · rename_i row hrow
            split at h
            · rename_i hcond
              rw [if_pos hcond]
              split at h
              · rename_i hb
                rw [if_pos hb]
                split at h
                · rename_i hl
                  rw [if_pos hl]
                  split at h
                  · rename_i hs
                    rw [if_pos hs]
                    simp only [Option.some.injEq, Prod.mk.injEq] at h ⊢
                    obtain ⟨rfl, rfl⟩ := h; exact ⟨rfl, rfl⟩
                  · cases h
                · rename_i hl
                  rw [if_neg hl]
                  split at h
                  · rename_i cs news hbc
                    split at h
                    · rename_i st' hn
                      rw [addNews_wt hn]
                      simp only [Option.some.injEq, Prod.mk.injEq, wt_put] at h ⊢
                      obtain ⟨rfl, rfl⟩ := h; exact ⟨rfl, rfl⟩
                    · cases h
                  · cases h
              · rename_i hb
                rw [if_neg hb]
                split at h
                · split at h
                  · simp only [Option.some.injEq, Prod.mk.injEq] at h ⊢
                    obtain ⟨rfl, rfl⟩ := h; exact ⟨rfl, rfl⟩
                  · cases h
                · cases h
            · cases h
          · cases h
        · cases h
    | _ => simp [hp] at h
  | call f args fl =>
    simp only [evalW, agree_Xs (xs := args) ht] at h ⊢
    cases hm : md f with
    | ref => rw [hm] at h; exact callRef_wt h
    | _ => simp [hm] at h
  | callv x args fl =>
    simp only [evalW, agree_X (x := x) (sub fun n hn => by simp [I.reads, hn]), agree_Xs (xs := args) (sub fun n hn => by simp only [I.reads, List.mem_append]; exact .inr hn)] at h ⊢
    cases hx : evalX S x with
    | fn f caps =>
      simp only [hx] at h ⊢
      cases hm : md f with
      | ref => rw [hm] at h; exact callRef_wt h
      | val =>
        simp only [hm] at h ⊢
        cases h1 : callVal O S base f (evalXs S args ++ caps) fl with
        | none => simp [h1] at h
        | some q =>
          obtain ⟨u, n⟩ := q
          rw [callVal_wt h1]
          simp only [h1] at h ⊢
          cases h2 : addNews S n with
          | none => simp [h2] at h
          | some S2 =>
            rw [addNews_wt h2]
            rw [h2] at h
            simp only [Option.some.injEq, Prod.mk.injEq] at h ⊢
            obtain ⟨rfl, rfl⟩ := h; exact ⟨rfl, rfl⟩
      | view =>
        simp only [hm] at h ⊢
        change (match callView O S f (evalXs S args ++ caps) with | some v => some (v, S.wt ts) | none => none) = _
        cases h1 : callView O S f (evalXs S args ++ caps) with
        | none => simp [h1] at h
        | some u =>
          simp only [h1, Option.some.injEq, Prod.mk.injEq] at h ⊢
          obtain ⟨rfl, rfl⟩ := h; exact ⟨rfl, rfl⟩
    | _ => simp [hx] at h
  | app fl sz bytes s x =>
    simp only [evalW, agree_X (x := s) (sub fun n hn => by simp [I.reads, hn]), agree_X (x := x) (sub fun n hn => by simp [I.reads, hn]), source_wt] at h ⊢
    split at h
    · rename_i ys hys
      split at h
      · rename_i hall
        rw [if_pos hall]
        split at h
        · split at h
          · rename_i hsz
            rw [if_pos hsz]
            split at h
            · rename_i st' hn
              rw [new_wt hn]
              simp only [Option.some.injEq, Prod.mk.injEq] at h ⊢
              obtain ⟨rfl, rfl⟩ := h; exact ⟨rfl, rfl⟩
            · cases h
          · cases h
        · rename_i lv sv ver len hX
          simp only [wt_at, wt_put]
          split at h
          · rename_i b xs hat
            split at h
            · rename_i hc
              rw [if_pos hc]
              simp only [Option.some.injEq, Prod.mk.injEq] at h ⊢
              obtain ⟨rfl, rfl⟩ := h; exact ⟨rfl, rfl⟩
            · cases h
          · cases h
        · cases h
      · cases h
    · cases h
  | clr sz zero x =>
    simp only [evalW, agree_X (x := x) (sub fun n hn => by simp [I.reads, hn])] at h ⊢
    split at h
    · rename_i lv sv ver off len hX
      simp only [wt_at, wt_put]
      split at h
      · rename_i b xs hat
        split at h
        · rename_i hc
          rw [if_pos hc]
          simp only [Option.some.injEq, Prod.mk.injEq] at h ⊢
          obtain ⟨rfl, rfl⟩ := h; exact ⟨rfl, rfl⟩
        · cases h
      · cases h
    · cases h
  | _ => simp [evalW] at h
theorem appC_wt {ts : List AV} {fl : Bool} {sz bytes : Nat} {s x v : AV} {S1 : St} (h : appC S fl sz bytes s x = some (v, S1)) : appC (S.wt ts) fl sz bytes s x = some (v, S1.wt ts) := by
  unfold appC at h ⊢
  simp only [source_wt] at h ⊢
  split at h
  · rename_i ys hys
    split at h
    · rename_i hall
      rw [if_pos hall]
      split at h
      · rename_i lv sv ver len
        simp only [wt_at, wt_put]
        split at h
        · rename_i b xs hat
          split at h
          · rename_i hc
            rw [if_pos hc]
            simp only [Option.some.injEq, Prod.mk.injEq] at h ⊢
            obtain ⟨rfl, rfl⟩ := h; exact ⟨rfl, rfl⟩
          · cases h
        · cases h
      · cases h
    · cases h
  · cases h

theorem cutM_wt {ts : List AV} {sz : Nat} {x hi v : AV} {m : Option AV} {S1 : St} (h : cutM S sz x hi m = some (v, S1)) : cutM (S.wt ts) sz x hi m = some (v, S1.wt ts) := by
  unfold cutM at h ⊢
  split at h
  · rename_i lv sv ver len
    simp only [wt_at, wt_put]
    split at h
    · rename_i b xs hat
      split at h
      · rename_i hc
        rw [if_pos hc]
        have hh : ∀ (S2 : St), cutmH S2 len hi m = cutmH S len hi m := fun S2 => by unfold cutmH; rfl
        rw [hh]
        split at h
        · rename_i h0 hb
          simp only [Option.some.injEq, Prod.mk.injEq] at h ⊢
          obtain ⟨rfl, rfl⟩ := h; exact ⟨rfl, rfl⟩
        · cases h
      · cases h
    · cases h
  · cases h
theorem guardOf_getD (g : Option (Option Nat × Bool)) : guardOf S g = match g with
    | none => some true
    | some (none, _) => some false
    | some (some t, want) => match S.tmps.getD t .undef with
      | .bool b => some (b == want)
      | .skp => some false
      | _ => none := by
  cases g with
  | none => rfl
  | some q =>
    obtain ⟨t, want⟩ := q
    cases t with
    | none => rfl
    | some t =>
      simp only [guardOf, List.getD_eq_getElem?_getD]
      cases hq : S.tmps[t]? with
      | none => rfl
      | some v => cases v <;> rfl
theorem guardOf_wt {ts : List AV} {g : Option (Option Nat × Bool)} (h : Agree S (S.wt ts) (match g with | some (some t, _) => [t] | _ => [])) : guardOf (S.wt ts) g = guardOf S g := by
  rw [guardOf_getD, guardOf_getD]
  cases g with
  | none => rfl
  | some q =>
    obtain ⟨t, want⟩ := q
    cases t with
    | none => rfl
    | some t =>
      have := h t (by simp)
      simp only []
      rw [this]

theorem wplaces_wt {ts : List AV} {op : I} (h : Agree S (S.wt ts) op.reads) : wplaces (S.wt ts) op = wplaces S op := by
  cases op with
  | store n p x => simp only [wplaces, agree_X (x := p) (h.mono fun n hn => by simp [I.reads, hn]), agree_X (x := x) (h.mono fun n hn => by simp [I.reads, hn])]
  | app fl sz b p x => simp only [wplaces, agree_X (x := p) (h.mono fun n hn => by simp [I.reads, hn]), agree_X (x := x) (h.mono fun n hn => by simp [I.reads, hn])]
  | _ => rfl
theorem apartOk_wt {ts : List AV} {op : I} (h : Agree S (S.wt ts) op.reads) : ∀ {l : List X}, Agree S (S.wt ts) (l.flatMap xTmp) → apartOk (S.wt ts) op l = apartOk S op l
  | [], _ => rfl
  | x :: r, hl => by
    simp only [apartOk, wplaces_wt h, agree_X (x := x) (hl.mono fun n hn => by simp [hn])]
    rw [apartOk_wt h (hl.mono fun n hn => by simp only [List.flatMap_cons, List.mem_append]; exact .inr hn)]

theorem rootsOk_agree {a : X} : ∀ {l : List X}, Agree S S' (xTmp a) → Agree S S' (l.flatMap xTmp) → rootsOk S' a l = rootsOk S a l
  | [], _, _ => rfl
  | x :: r, ha, hl => by
    simp only [rootsOk, agree_X ha, agree_X (x := x) (hl.mono fun n hn => by simp [hn])]
    rw [rootsOk_agree ha (hl.mono fun n hn => by simp only [List.flatMap_cons, List.mem_append]; exact .inr hn)]
theorem keyedOk_wt {ts : List AV} : ∀ {l : List X}, Agree S (S.wt ts) (l.flatMap xTmp) → keyedOk (S.wt ts) l = keyedOk S l
  | [], _ => rfl
  | x :: r, hl => by
    simp only [keyedOk, agree_X (x := x) (hl.mono fun n hn => by simp [hn])]
    rw [keyedOk_wt (hl.mono fun n hn => by simp only [List.flatMap_cons, List.mem_append]; exact .inr hn)]
    rfl
theorem readsAt_sub {op : I} {a : X} (h : readsAt op = some a) : ∀ n ∈ xTmp a, n ∈ op.reads := by
  intro n hn
  cases op <;> simp [readsAt] at h <;> try (subst h; simp [I.reads, hn])
  rename_i str x
  cases str <;> simp at h
  subst h; simp [I.reads, hn]
theorem quietOk_wt {ts : List AV} {op : I} {l : List X} (h : Agree S (S.wt ts) op.reads) (hl : Agree S (S.wt ts) (l.flatMap xTmp)) : quietOk (S.wt ts) op l = quietOk S op l := by
  unfold quietOk
  cases hr : readsAt op with
  | none => exact keyedOk_wt hl
  | some a => exact rootsOk_agree (h.mono (readsAt_sub hr)) hl

theorem keptL_wt {S H : St} {ts : List AV} : ∀ {l : List X}, Agree S (S.wt ts) (l.flatMap xTmp) → keptL S H l → keptL (S.wt ts) (H.wt ts) l
  | [], _, _ => trivial
  | x :: r, ha, h => by
    refine ⟨?_, keptL_wt (ha.mono fun n hn => by rw [List.flatMap_cons]; exact List.mem_append.2 (.inr hn)) h.2⟩
    have hx : evalX (S.wt ts) x = evalX S x := agree_X (ha.mono fun n hn => by rw [List.flatMap_cons]; exact List.mem_append.2 (.inl hn))
    rw [hx]
    have h1 := h.1
    cases hp : placeOf (evalX S x) with
    | none => trivial
    | some q => rw [hp] at h1; obtain ⟨lv, s⟩ := q; cases lv <;> exact h1
theorem keptOk_wt {S H : St} {ts : List AV} {op : I} {l : List X} (ha : Agree S (S.wt ts) (l.flatMap xTmp)) (h : keptOk S H op l) : keptOk (S.wt ts) (H.wt ts) op l := by
  cases op <;> first | trivial | exact keptL_wt ha h
theorem put_wt (ts : List AV) (lv s : Nat) (b : Option Blk) : (S.wt ts).put lv s b = (S.put lv s b).wt ts := wt_put ts lv s b
theorem moveCell_wt {ts : List AV} {lv s : Nat} {v v' : AV} {S1 : St} (h : moveCell S lv s v = some (v', S1)) : moveCell (S.wt ts) lv s v = some (v', S1.wt ts) := by
  unfold moveCell at h ⊢
  split at h
  · try simp only [wt_at]
    split at h
    · cases h
    · rename_i hne
      rw [if_neg hne]
      split at h
      · rename_i hat
        split at h
        · rename_i hc
          cases h
          try simp only [hat]
          rw [if_pos hc, wt_put]
        · cases h
      · cases h
  · cases h; rfl
  · split at h
    · rename_i hs
      cases h
      try simp only
      rw [if_pos hs]
    · cases h
theorem moveCells_wt {ts : List AV} {lv s : Nat} : ∀ {ws cs : List AV} {S S1 : St}, moveCells S lv s ws = some (cs, S1) → moveCells (S.wt ts) lv s ws = some (cs, S1.wt ts)
  | [], cs, S, S1, h => by simp [moveCells] at h ⊢; obtain ⟨rfl, rfl⟩ := h; exact ⟨rfl, rfl⟩
  | v :: r, cs, S, S1, h => by
    simp only [moveCells] at h ⊢
    split at h
    · rename_i h1
      rw [moveCell_wt h1]
      try simp only
      split at h
      · rename_i h2
        rw [moveCells_wt h2]
        cases h; rfl
      · cases h
    · cases h
theorem storeM_wt {ts : List AV} {n : Nat} {a x v : AV} {S1 : St} (h : storeM S n a x = some (v, S1)) : storeM (S.wt ts) n a x = some (v, S1.wt ts) := by
  unfold storeM at h ⊢
  split at h
  · rename_i hcs
    try simp only [wt_at]
    split at h
    · rename_i hat
      split at h
      · rename_i hrow
        split at h
        · rename_i hc
          try simp only [hcs, hat, hrow]
          rw [if_pos hc]
          split at h
          · split at h
            · rename_i hsc
              cases h
              try simp only []
              rw [if_pos hsc, wt_put]
            · rename_i hsc
              split at h
              · rename_i hm
                cases h
                try simp only []
                rw [if_neg hsc]
                simp only [moveCells_wt hm, wt_put]
              · cases h
          · split at h
            · rename_i hcl
              split at h
              · rename_i hs
                cases h
                try simp only [hcl]
                rw [if_pos hs, wt_put]
              · cases h
            · cases h
          · cases h
        · cases h
      · cases h
    · cases h
  · cases h
theorem appM2_wt {ts : List AV} {sz bytes lv s ver len t tv : Nat} {v : AV} {S1 : St} (h : appM2 S sz bytes lv s ver len t tv = some (v, S1)) : appM2 (S.wt ts) sz bytes lv s ver len t tv = some (v, S1.wt ts) := by
  unfold appM2 at h ⊢
  try simp only [wt_at]
  split at h
  · rename_i h1 h2
    split at h
    · rename_i hc
      try simp only [h1, h2]
      rw [if_pos hc]
      split at h
      · rename_i hm
        cases h
        simp only [moveCells_wt hm, wt_put]
      · cases h
    · cases h
  · cases h
theorem appM_wt {ts : List AV} {base : Nat} {fl : Bool} {sz bytes : Nat} {s x v : AV} {S1 : St} (h : appM S base fl sz bytes s x = some (v, S1)) : appM (S.wt ts) base fl sz bytes s x = some (v, S1.wt ts) := by
  unfold appM at h ⊢
  split at h
  · split at h
    · split at h
      · rename_i hfl
        try simp only
        rw [if_pos hfl]
        split at h
        · rename_i hn
          rw [new_wt hn]
          exact appM2_wt h
        · cases h
      · cases h
    · exact appM2_wt h
    · cases h
  · cases h
theorem evalW_wt_none {O : Oracle} {md : Nat → Mode} {ts : List AV} {base : Nat} {op : I} (ht : Agree S (S.wt ts) op.reads) (h : evalW O md S base op = none) : evalW O md (S.wt ts) base op = none := by
  cases hq : evalW O md (S.wt ts) base op with
  | none => rfl
  | some r =>
    obtain ⟨v, S1⟩ := r
    have := evalW_wt (S := S.wt ts) (ts := S.tmps) (fun n hn => (ht n hn).symm) hq
    rw [wt_wt, wt_self, h] at this
    cases this
theorem storeM_wt_none {ts : List AV} {n : Nat} {a x : AV} (h : storeM S n a x = none) : storeM (S.wt ts) n a x = none := by
  cases hq : storeM (S.wt ts) n a x with
  | none => rfl
  | some r =>
    obtain ⟨v, S1⟩ := r
    have := storeM_wt (S := S.wt ts) (ts := S.tmps) hq
    rw [wt_wt, wt_self, h] at this
    cases this
theorem appM_wt_none {ts : List AV} {base : Nat} {fl : Bool} {sz bytes : Nat} {s x : AV} (h : appM S base fl sz bytes s x = none) : appM (S.wt ts) base fl sz bytes s x = none := by
  cases hq : appM (S.wt ts) base fl sz bytes s x with
  | none => rfl
  | some r =>
    obtain ⟨v, S1⟩ := r
    have := appM_wt (S := S.wt ts) (ts := S.tmps) hq
    rw [wt_wt, wt_self, h] at this
    cases this
theorem evalV_wt {O : Oracle} {md : Nat → Mode} {ts : List AV} {base : Nat} {op : I} {v : AV} {S1 : St} (ht : Agree S (S.wt ts) op.reads) (h : evalV O md S base op = some (v, S1)) : evalV O md (S.wt ts) base op = some (v, S1.wt ts) := by
  have sub : ∀ {m : List Nat}, (∀ n ∈ m, n ∈ op.reads) → Agree S (S.wt ts) m := fun h => ht.mono h
  unfold evalV at h ⊢
  split at h
  · rename_i n a x
    have ht' : Agree S (S.wt ts) (I.store n a x).reads := ht
    simp only [agree_X (x := a) (sub fun n hn => by simp [I.reads, hn]), agree_X (x := x) (sub fun n hn => by simp [I.reads, hn])]
    split at h
    · rename_i r hr
      cases h
      simp only [storeM_wt hr]
    · rename_i hr
      simp only [storeM_wt_none hr]
      exact evalW_wt ht' h
  · rename_i fl sz bytes s x
    have ht' : Agree S (S.wt ts) (I.app fl sz bytes s x).reads := ht
    split at h
    · rename_i r hr
      cases h
      simp only [evalW_wt ht' hr]
    · rename_i hr
      simp only [evalW_wt_none ht' hr, agree_X (x := s) (sub fun n hn => by simp [I.reads, hn]), agree_X (x := x) (sub fun n hn => by simp [I.reads, hn])]
      split at h
      · rename_i r hr2
        cases h
        simp only [appM_wt hr2]
      · rename_i hr2
        simp only [appM_wt_none hr2]
        exact appC_wt h
  · rename_i sz x hi m
    simp only [agree_X (x := x) (sub fun n hn => by simp [I.reads, hn]), agree_X (x := hi) (sub fun n hn => by simp [I.reads, hn]), agree_O (x := m) (sub fun n hn => by simp [I.reads, hn])]
    exact cutM_wt h
  · exact evalW_wt ht h
/-- What an operation comes to, with whatever temporaries it does not read. -/
theorem evalOp_char {O : Oracle} {md : Nat → Mode} {z : IOp} {S1 : St} (h : evalOp O md z S = some S1) :
    ∃ (v : AV) (H : St), S1 = H.setT z.dst v ∧ H.tmps = S.tmps ∧ ∀ ts, Agree S (S.wt ts) z.reads → evalOp O md z (S.wt ts) = some ((H.wt ts).setT z.dst v) := by
  unfold evalOp at h
  split at h
  · rename_i hg
    unfold evalI at h
    split at h
    · rename_i hw
      split at h
      · rename_i hap
        split at h
        · rename_i v H hq
          obtain ⟨hq, hkp⟩ := evalK_some.1 hq
          cases h
          refine ⟨v, H, rfl, evalV_tmps hq, fun ts ht => ?_⟩
          have hr : Agree S (S.wt ts) z.op.reads := ht.mono fun n hn => by simp [IOp.reads, hn]
          unfold evalOp
          rw [guardOf_wt (ht.mono fun n hn => by unfold IOp.reads; simp only [List.mem_append]; exact .inl (.inr hn)), hg]
          simp only []
          unfold evalI
          rw [if_pos hw, apartOk_wt hr (ht.mono fun n hn => by unfold IOp.reads; simp only [List.mem_append]; exact .inr hn), keyedOk_wt (ht.mono fun n hn => by unfold IOp.reads; simp only [List.mem_append]; exact .inr hn), if_pos hap, evalK_some.2 ⟨evalV_wt hr hq, keptOk_wt (ht.mono fun n hn => by unfold IOp.reads; simp only [List.mem_append]; exact .inr hn) hkp⟩]
        · cases h
      · cases h
    · rename_i hw
      split at h
      rotate_left
      · cases h
      rename_i hqo
      split at h
      · rename_i v n hq
        split at h
        · rename_i H hn
          cases h
          refine ⟨v, H, rfl, (addNews_tmps hn).1, fun ts ht => ?_⟩
          have hr : Agree S (S.wt ts) z.op.reads := ht.mono fun n hn => by simp [IOp.reads, hn]
          unfold evalOp
          rw [guardOf_wt (ht.mono fun n hn => by unfold IOp.reads; simp only [List.mem_append]; exact .inl (.inr hn)), hg]
          simp only []
          unfold evalI
          rw [if_neg hw, quietOk_wt hr (ht.mono fun n hn => by unfold IOp.reads; simp only [List.mem_append]; exact .inr hn), if_pos hqo, evalQ_mono hr (fun _ _ _ _ _ b hb => hb) (fun _ _ _ _ b hb => hb) (fun _ => ⟨rfl, rfl⟩) hq]
          simp only []
          rw [addNews_wt hn]
        · cases h
      · cases h
  · rename_i hg
    cases h
    refine ⟨.skp, S, rfl, rfl, fun ts ht => ?_⟩
    unfold evalOp
    rw [guardOf_wt (ht.mono fun n hn => by unfold IOp.reads; simp only [List.mem_append]; exact .inl (.inr hn)), hg]
  · cases h
end
end Go.Ae
namespace Go.Ae
open Go.RowKit
set_option linter.unusedVariables false
set_option linter.unusedSimpArgs false
section
variable {S S' : St}

theorem set_set_comm {a b : Nat} (hab : a ≠ b) (x y : Option Blk) : ∀ h : Heap, (h.set a x).set b y = (h.set b y).set a x
  | [] => by
    simp only [Heap.set]
    rw [if_neg (Ne.symm hab), if_neg hab]
    by_cases h1 : a < b
    · rw [if_neg (by omega), if_pos h1]
    · rw [if_pos (by omega), if_neg h1]
  | (t, c) :: r => by
    have ih := set_set_comm hab x y r
    simp only [Heap.set]
    by_cases h1 : a = t
    · subst h1
      rw [if_pos rfl]
      by_cases h2 : b = a
      · exact absurd h2.symm hab
      · rw [if_neg h2]
        simp only [Heap.set]
        rw [if_neg h2]
        by_cases h3 : b < a
        · rw [if_pos h3, if_pos h3]; simp only [Heap.set]; rw [if_neg (by omega), if_neg (by omega), if_pos True.intro]
        · rw [if_neg h3, if_neg h3]; simp only [Heap.set]; rw [if_pos True.intro]
    · rw [if_neg h1]
      by_cases h2 : b = t
      · subst h2
        rw [if_pos rfl]
        by_cases h3 : a < b
        · rw [if_pos h3]; simp only [Heap.set]; rw [if_neg (by omega), if_neg (by omega), if_pos True.intro, if_neg h1, if_pos h3]
        · rw [if_neg h3]; simp only [Heap.set]; rw [if_pos True.intro, if_neg h1, if_neg h3]
      · rw [if_neg h2]
        by_cases h3 : a < t
        · rw [if_pos h3]
          by_cases h4 : b < t
          · rw [if_pos h4]
            simp only [Heap.set]
            by_cases h5 : a < b
            · rw [if_neg (by omega), if_neg (by omega), if_neg h2, if_pos h4, if_neg (by omega), if_pos h5]
            · rw [if_neg (by omega), if_pos (by omega), if_neg (by omega), if_neg (by omega), if_neg h1, if_pos h3]
          · rw [if_neg h4]
            simp only [Heap.set]
            rw [if_neg (by omega), if_neg (by omega), if_neg h2, if_neg h4, if_neg h1, if_pos h3]
        · rw [if_neg h3]
          by_cases h4 : b < t
          · rw [if_pos h4]
            simp only [Heap.set]
            rw [if_neg h2, if_pos h4, if_neg (by omega), if_neg (by omega), if_neg h1, if_neg h3]
          · rw [if_neg h4]
            simp only [Heap.set]
            rw [if_neg h2, if_neg h4, if_neg h1, if_neg h3, ih]

theorem new_iff {s : Nat} {b : Blk} {S1 : St} : S.new s b = some S1 ↔ S.loc.get s = none ∧ S1 = { S with loc := S.loc.set s (some b) } := by
  refine ⟨new_get, fun ⟨h1, h2⟩ => ?_⟩
  unfold St.new; rw [h1, h2]
theorem new_comm {s t : Nat} {b c : Blk} {S1 S2 : St} (h1 : S.new s b = some S1) (h2 : S1.new t c = some S2) : ∃ S3, S.new t c = some S3 ∧ S3.new s b = some S2 := by
  obtain ⟨a1, rfl⟩ := new_get h1
  obtain ⟨a2, rfl⟩ := new_get h2
  simp only at a2
  rw [get_set] at a2
  by_cases hst : t = s
  · subst hst; simp at a2
  · rw [if_neg hst] at a2
    refine ⟨_, new_iff.2 ⟨a2, rfl⟩, new_iff.2 ⟨?_, ?_⟩⟩
    · show (S.loc.set t (some c)).get s = none
      rw [get_set, if_neg (Ne.symm hst)]; exact a1
    · show ({ S with loc := (S.loc.set s (some b)).set t (some c) } : St) = { S with loc := (S.loc.set t (some c)).set s (some b) }
      rw [set_set_comm (Ne.symm hst)]
theorem addNews_new {s : Nat} {b : Blk} : ∀ {n : List (Nat × Blk)} {S S1 S2 : St}, S.new s b = some S1 → addNews S1 n = some S2 → ∃ S3, addNews S n = some S3 ∧ S3.new s b = some S2
  | [], S, S1, S2, h1, h2 => by cases h2; exact ⟨S, rfl, h1⟩
  | (t, c) :: r, S, S1, S2, h1, h2 => by
    simp only [addNews] at h2 ⊢
    cases hn : S1.new t c with
    | none => simp [hn] at h2
    | some S4 =>
      rw [hn] at h2
      obtain ⟨S5, k1, k2⟩ := new_comm h1 hn
      rw [k1]
      exact addNews_new k2 h2
theorem addNews_comm : ∀ {n m : List (Nat × Blk)} {S S1 S2 : St}, addNews S n = some S1 → addNews S1 m = some S2 → ∃ S3, addNews S m = some S3 ∧ addNews S3 n = some S2
  | [], m, S, S1, S2, h1, h2 => by cases h1; exact ⟨S2, h2, rfl⟩
  | (s, b) :: r, m, S, S1, S2, h1, h2 => by
    simp only [addNews] at h1
    cases hn : S.new s b with
    | none => simp [hn] at h1
    | some S4 =>
      rw [hn] at h1
      obtain ⟨S5, k1, k2⟩ := addNews_comm h1 h2
      obtain ⟨S6, j1, j2⟩ := addNews_new hn k1
      exact ⟨S6, j1, by simp only [addNews]; rw [j2]; exact k2⟩
theorem addNews_holds : ∀ {n : List (Nat × Blk)} {S S1 : St}, addNews S n = some S1 → ∀ lv s, Holds S S1 lv s
  | [], S, S1, h, lv, s, b, hb => by cases h; exact hb
  | (t, c) :: r, S, S1, h, lv, s, b, hb => by
    simp only [addNews] at h
    cases hn : S.new t c with
    | none => simp [hn] at h
    | some S4 =>
      rw [hn] at h
      refine addNews_holds h lv s b ?_
      rw [new_blk hn]
      by_cases hl : lv = 0 ∧ s = t
      · obtain ⟨rfl, rfl⟩ := hl
        have := (new_get hn).1
        unfold St.blk at hb
        simp [St.heap, this] at hb
      · rw [if_neg hl]; exact hb

theorem evalV_sa {O : Oracle} {md : Nat → Mode} {base : Nat} {op : I} (h : isSA op = true) : evalV O md S base op = evalW O md S base op := by
  cases op <;> first | rfl | simp [isSA] at h
/-- A store, an append leaves every other place as it was. -/
theorem evalW_holds {O : Oracle} {md : Nat → Mode} {base : Nat} {op : I} {v : AV} {S1 : St} {lv s : Nat} (hop : (match op with | .store .. | .app .. => true | _ => false) = true)
    (hp : (lv, s) ∉ wplaces S op) (h : evalW O md S base op = some (v, S1)) : Holds S S1 lv s := by
  cases op with
  | store n p x =>
    intro b hb
    simp only [evalW] at h
    cases hX : evalX S p with
    | ptr lv' s' ver pa i c =>
      have hne : ¬ (lv = lv' ∧ s = s') := fun ⟨e1, e2⟩ => hp (by simp [wplaces, hX, e1, e2])
      cases hc : (evalX S x).cells with
      | none => simp [hX, hc] at h
      | some ws =>
        simp only [hX, hc] at h
        split at h
        · rename_i bb ys hat
          obtain ⟨ob, hob⟩ : ∃ ob, (S.heap lv').get s' = some ob := by
            unfold St.at at hat
            split at hat
            · rename_i b' hb'
              unfold St.blk at hb'
              split at hb'
              · rename_i b'' hg; exact ⟨_, hg⟩
              · cases hb'
            · cases hat
          split at h
          · split at h
            · split at h
              · split at h
                · split at h
                  · simp only [Option.some.injEq, Prod.mk.injEq] at h
                    obtain ⟨_, rfl⟩ := h
                    rw [blk_put hob, if_neg hne]; exact hb
                  · cases h
                · split at h
                  · split at h
                    · rename_i st' hn
                      simp only [Option.some.injEq, Prod.mk.injEq] at h
                      obtain ⟨_, rfl⟩ := h
                      obtain ⟨ob', hob'⟩ : ∃ ob', (st'.heap lv').get s' = some ob' := by
                        unfold St.at at hat
                        split at hat
                        · rename_i b' hb'
                          have := addNews_holds hn lv' s' b' hb'
                          unfold St.blk at this
                          split at this
                          · rename_i b'' hg; exact ⟨_, hg⟩
                          · cases this
                        · cases hat
                      rw [blk_put hob', if_neg hne]
                      exact addNews_holds hn lv s b hb
                    · cases h
                  · cases h
              · split at h
                · split at h
                  · simp only [Option.some.injEq, Prod.mk.injEq] at h
                    obtain ⟨_, rfl⟩ := h
                    rw [blk_put hob, if_neg hne]; exact hb
                  · cases h
                · cases h
            · cases h
          · cases h
        · cases h
    | _ => simp [hX] at h
  | app fl sz bytes q x =>
    intro b hb
    simp only [evalW] at h
    split at h
    · split at h
      · split at h
        · split at h
          · split at h
            · rename_i hn
              simp only [Option.some.injEq, Prod.mk.injEq] at h
              obtain ⟨_, rfl⟩ := h
              exact addNews_holds (n := [(_, _)]) (by simp only [addNews]; rw [hn]) lv s b hb
            · cases h
          · cases h
        · rename_i lv' s' ver len hX
          have hne : ¬ (lv = lv' ∧ s = s') := fun ⟨e1, e2⟩ => hp (by simp [wplaces, hX, e1, e2])
          split at h
          · rename_i bb xs hat
            split at h
            · obtain ⟨ob, hob⟩ : ∃ ob, (S.heap lv').get s' = some ob := by
                unfold St.at at hat
                split at hat
                · rename_i b' hb'
                  unfold St.blk at hb'
                  split at hb'
                  · rename_i b'' hg; exact ⟨_, hg⟩
                  · cases hb'
                · cases hat
              simp only [Option.some.injEq, Prod.mk.injEq] at h
              obtain ⟨_, rfl⟩ := h
              rw [blk_put hob, if_neg hne]; exact hb
            · cases h
          · cases h
        · cases h
      · cases h
    · cases h
  | _ => simp at hop

theorem addNews_get : ∀ {n : List (Nat × Blk)} {S S1 : St} {lv s : Nat} {ob : Option Blk}, addNews S n = some S1 → (S.heap lv).get s = some ob → (S1.heap lv).get s = some ob
  | [], S, S1, lv, s, ob, h, hg => by cases h; exact hg
  | (t, c) :: r, S, S1, lv, s, ob, h, hg => by
    simp only [addNews] at h
    cases hn : S.new t c with
    | none => simp [hn] at h
    | some S4 =>
      rw [hn] at h
      refine addNews_get h ?_
      rw [new_heap hn]
      by_cases hl : lv = 0 ∧ s = t
      · obtain ⟨rfl, rfl⟩ := hl
        have := (new_get hn).1
        simp only [St.heap] at hg
        rw [this] at hg; cases hg
      · rw [if_neg hl]; exact hg
theorem keyedOk_mono : ∀ {l : List X}, Agree S S' (l.flatMap xTmp) → (∀ lv s ob, (S.heap lv).get s = some ob → (S'.heap lv).get s = some ob) → keyedOk S l = true → keyedOk S' l = true
  | [], _, _, _ => rfl
  | x :: r, hl, hg, h => by
    simp only [keyedOk, Bool.and_eq_true] at h ⊢
    rw [agree_X (x := x) (hl.mono fun n hn => by simp [hn])]
    refine ⟨?_, keyedOk_mono (hl.mono fun n hn => by simp only [List.flatMap_cons, List.mem_append]; exact .inr hn) hg h.2⟩
    have h1 := h.1
    cases hp : placeOf (evalX S x) with
    | none => simp
    | some q =>
      obtain ⟨lv, s⟩ := q
      simp only [hp] at h1 ⊢
      cases hk : (S.heap lv).get s with
      | none => simp [hk] at h1
      | some ob => rw [hg lv s ob hk]; rfl
theorem keyedOk_mem : ∀ {l : List X} {x : X} {lv s : Nat}, keyedOk S l = true → x ∈ l → placeOf (evalX S x) = some (lv, s) → ∃ ob, (S.heap lv).get s = some ob
  | [], x, lv, s, _, hx, _ => by simp at hx
  | y :: r, x, lv, s, h, hx, hp => by
    simp only [keyedOk, Bool.and_eq_true] at h
    rcases List.mem_cons.1 hx with rfl | hx
    · have := h.1
      rw [hp] at this
      exact Option.isSome_iff_exists.1 this
    · exact keyedOk_mem h.2 hx hp
theorem keyedOk_of : ∀ {l : List X}, (∀ x ∈ l, ∀ lv s, placeOf (evalX S x) = some (lv, s) → ∃ ob, (S.heap lv).get s = some ob) → keyedOk S l = true
  | [], _ => rfl
  | y :: r, h => by
    simp only [keyedOk, Bool.and_eq_true]
    refine ⟨?_, keyedOk_of fun x hx => h x (List.mem_cons_of_mem _ hx)⟩
    cases hp : placeOf (evalX S y) with
    | none => rfl
    | some q =>
      obtain ⟨lv, s⟩ := q
      obtain ⟨ob, hob⟩ := h y List.mem_cons_self lv s hp
      simp [hob]
theorem rootsOk_mem {a : X} : ∀ {l : List X} {x : X}, rootsOk S a l = true → x ∈ l → placeOf (evalX S x) = placeOf (evalX S a)
  | [], x, _, hx => by simp at hx
  | y :: r, x, h, hx => by
    simp only [rootsOk, Bool.and_eq_true, beq_iff_eq] at h
    rcases List.mem_cons.1 hx with rfl | hx
    · exact h.1
    · exact rootsOk_mem h.2 hx
theorem points_place {v : AV} {lv s : Nat} (h : Points v lv s) : placeOf v = some (lv, s) := by
  rcases h with ⟨_, _, _, _, rfl⟩ | ⟨_, _, _, _, rfl⟩ <;> rfl
theorem same_eq {a b : X} (h : a.same b = true) : a = b := by
  cases a <;> cases b <;> simp [X.same] at h
  rw [h]
theorem quietOk_nil (op : I) : quietOk S op [] = true := by
  unfold quietOk; cases readsAt op <;> rfl
theorem apartOk_mem {op : I} : ∀ {l : List X} {x : X} {lv s : Nat}, apartOk S op l = true → x ∈ l → placeOf (evalX S x) = some (lv, s) → (lv, s) ∉ wplaces S op
  | [], x, lv, s, _, hx, _ => by simp at hx
  | y :: r, x, lv, s, h, hx, hp => by
    simp only [apartOk, Bool.and_eq_true] at h
    rcases List.mem_cons.1 hx with rfl | hx
    · have h1 := h.1
      cases hv : evalX S x with
      | sl lv' s' ver p off len =>
        rw [hv] at hp h1
        simp only [placeOf, Option.some.injEq, Prod.mk.injEq] at hp
        obtain ⟨rfl, rfl⟩ := hp
        simpa using h1
      | ptr lv' s' ver p i c =>
        rw [hv] at hp h1
        simp only [placeOf, Option.some.injEq, Prod.mk.injEq] at hp
        obtain ⟨rfl, rfl⟩ := hp
        simpa using h1
      | _ => rw [hv] at hp; simp [placeOf] at hp
    · exact apartOk_mem h.2 hx hp
/-- The place of what is read is that of one of these. -/
theorem underAny_spec {x : IOp} {l : List X} {a : X} (h : underAny x l = true) (ha : readsAt x.op = some a) (hr : rootsOk S a x.apart = true) : ∃ b ∈ l, placeOf (evalX S b) = placeOf (evalX S a) ∧ (b = a ∨ b ∈ x.apart) := by
  unfold underAny at h
  simp only [ha, List.any_eq_true, Bool.or_eq_true] at h
  obtain ⟨b, hb, h1 | ⟨r, hr', h1⟩⟩ := h
  · have := same_eq h1; subst this; exact ⟨a, hb, rfl, .inl rfl⟩
  · have := same_eq h1; subst this; exact ⟨r, hb, rootsOk_mem hr hr', .inr hr'⟩

/-- What is left: the guard has said no, or the operation is done. -/
theorem evalOp_cases {O : Oracle} {md : Nat → Mode} {y : IOp} {S1 : St} (h : evalOp O md y S = some S1) :
    (guardOf S y.g = some false ∧ S1 = S.setT y.dst .skp) ∨ (guardOf S y.g = some true ∧ evalI O md y S = some S1) := by
  unfold evalOp at h
  split at h
  · rename_i hg; exact .inr ⟨hg, h⟩
  · rename_i hg; cases h; exact .inl ⟨hg, rfl⟩
  · cases h
theorem guardOf_agree {g : Option (Option Nat × Bool)} (h : Agree S S' (match g with | some (some t, _) => [t] | _ => [])) : guardOf S' g = guardOf S g := by
  rw [guardOf_getD, guardOf_getD]
  cases g with
  | none => rfl
  | some q =>
    obtain ⟨t, want⟩ := q
    cases t with
    | none => rfl
    | some t =>
      have := h t (by simp)
      simp only []
      rw [this]
theorem Agree.g {y : IOp} (h : Agree S S' y.reads) : Agree S S' (match y.g with | some (some t, _) => [t] | _ => []) :=
  h.mono fun n hn => by unfold IOp.reads; simp only [List.mem_append]; exact .inl (.inr hn)
theorem Agree.op {y : IOp} (h : Agree S S' y.reads) : Agree S S' y.op.reads :=
  h.mono fun n hn => by simp [IOp.reads, hn]
theorem writes_w {md : Nat → Mode} {op : I} : writes md op = (memOf md op).w := by
  cases op with
  | call f a fl => cases h : md f <;> simp [writes, memOf, h]
  | len s x => cases s <;> rfl
  | _ => rfl

/-- An operation that hangs on its temporaries only and makes nothing. -/
def Still (O : Oracle) (md : Nat → Mode) (y : IOp) (S S1 : St) : Prop := ∃ v, S1 = S.setT y.dst v ∧ ∀ S', Agree S S' y.reads → evalOp O md y S' = some (S'.setT y.dst v)
theorem still_skip {O : Oracle} {md : Nat → Mode} {y : IOp} {S1 : St} (hg : guardOf S y.g = some false) (h1 : S1 = S.setT y.dst .skp) : Still O md y S S1 :=
  ⟨.skp, h1, fun S' ha => by unfold evalOp; rw [guardOf_agree ha.g, hg]⟩
theorem still_pure {O : Oracle} {md : Nat → Mode} {y : IOp} {S1 : St} (hap : y.apart = []) (hp : (memOf md y.op).pure = true) (hg : guardOf S y.g = some true) (h : evalI O md y S = some S1) : Still O md y S S1 := by
  simp only [Mem.pure, Bool.and_eq_true, Bool.not_eq_true'] at hp
  obtain ⟨⟨⟨ht, hw⟩, hk⟩, hv⟩ := hp
  unfold evalI at h
  rw [writes_w, hw] at h
  simp only [Bool.false_eq_true, if_false, hap, quietOk_nil, if_true] at h
  split at h
  · rename_i v n hq
    have := evalQ_none hk hq
    subst this
    simp only [addNews, Option.some.injEq] at h
    refine ⟨v, h.symm, fun S' ha => ?_⟩
    unfold evalOp
    rw [guardOf_agree ha.g, hg]
    simp only []
    unfold evalI
    rw [writes_w, hw]
    simp only [Bool.false_eq_true, if_false, hap, quietOk_nil, if_true]
    have hra : ∀ a, readsAt y.op = some a → (memOf md y.op).t = true := fun a ha => by
      cases hop : y.op <;> rw [hop] at ha <;> first | rfl | (simp [readsAt] at ha; done) | skip
      rename_i str x; cases str <;> first | rfl | simp [readsAt] at ha
    rw [evalQ_mono ha.op (fun a h2 => by rw [hra a h2] at ht; cases ht) (fun _ h2 => by rw [ht] at h2; cases h2) (fun h2 => by rw [hv] at h2; cases h2) hq]
    rfl
  · cases h

theorem indep_spec {x y : IOp} (h : x.indep y = true) : (∀ d, x.dst = some d → d ∉ y.reads) ∧ (∀ d, x.dst = some d → y.dst ≠ some d) ∧ (∀ d, y.dst = some d → d ∉ x.reads) := by
  unfold IOp.indep at h
  simp only [Bool.and_eq_true] at h
  obtain ⟨h1, h2⟩ := h
  refine ⟨fun d hd => ?_, fun d hd => ?_, fun d hd => ?_⟩
  · rw [hd] at h1; simp at h1; exact h1.1
  · rw [hd] at h1; simp at h1; exact h1.2
  · rw [hd] at h2; simp at h2; exact h2

theorem at_key {lv s ver : Nat} {p : Path} {q : Blk × List (List AV)} (h : S.at lv s ver p = some q) : ∃ ob, (S.heap lv).get s = some ob := by
  unfold St.at at h
  split at h
  · rename_i b hb; exact ⟨_, blk_get hb⟩
  · cases h
theorem new_put {lv s t : Nat} {b : Option Blk} {c : Blk} {ob : Option Blk} {S4 : St} (hk : (S.heap lv).get s = some ob) (h : (S.put lv s b).new t c = some S4) : ∃ S5, S.new t c = some S5 ∧ S4 = S5.put lv s b := by
  obtain ⟨h1, rfl⟩ := new_get h
  cases lv with
  | zero =>
    have hst : s ≠ t := fun e => by
      subst e
      have : ((S.put 0 s b).loc).get s = some b := by show (S.loc.set s b).get s = some b; rw [get_set, if_pos rfl]
      rw [this] at h1; cases h1
    have h2 : S.loc.get t = none := by
      have : (S.loc.set s b).get t = none := h1
      rw [get_set, if_neg (Ne.symm hst)] at this; exact this
    refine ⟨_, new_iff.2 ⟨h2, rfl⟩, ?_⟩
    show ({ S with loc := (S.loc.set s b).set t (some c) } : St) = { S with loc := (S.loc.set t (some c)).set s b }
    rw [set_set_comm hst]
  | succ n => exact ⟨_, new_iff.2 ⟨h1, rfl⟩, rfl⟩
theorem news_put : ∀ {n : List (Nat × Blk)} {S H2 : St} {lv s : Nat} {b : Option Blk} {ob : Option Blk}, (S.heap lv).get s = some ob → addNews (S.put lv s b) n = some H2 → ∃ Y, addNews S n = some Y ∧ H2 = Y.put lv s b
  | [], S, H2, lv, s, b, ob, hk, h => by cases h; exact ⟨S, rfl, rfl⟩
  | (t, c) :: r, S, H2, lv, s, b, ob, hk, h => by
    simp only [addNews] at h ⊢
    cases hn : (S.put lv s b).new t c with
    | none => simp [hn] at h
    | some S4 =>
      rw [hn] at h
      obtain ⟨S5, k1, rfl⟩ := new_put hk hn
      rw [k1]
      exact news_put (addNews_get (n := [(t, c)]) (by simp only [addNews]; rw [k1]) hk) h
/-- A store, an append: what is elsewhere stays; what is there stays there; what is new does not matter. -/
theorem evalW_sa {O : Oracle} {md : Nat → Mode} {base : Nat} {op : I} {v : AV} {H : St} (hop : isSA op = true) (h : evalW O md S base op = some (v, H)) :
    (∀ lv s ob, (S.heap lv).get s = some ob → ∃ ob', (H.heap lv).get s = some ob' ∧ ((lv, s) ∉ wplaces S op → ob' = ob)) ∧
    (∀ nz S2 H2, addNews S nz = some S2 → addNews H nz = some H2 → evalW O md S2 base op = some (v, H2)) := by
  have key : ∀ {T : St} {lv s : Nat} {b : Option Blk} {ob0 : Option Blk} {news : List (Nat × Blk)}, (S.heap lv).get s = some ob0 → addNews S news = some T → (lv, s) ∈ wplaces S op →
      ∀ lv' s' ob, (S.heap lv').get s' = some ob → ∃ ob', ((T.put lv s b).heap lv').get s' = some ob' ∧ ((lv', s') ∉ wplaces S op → ob' = ob) := fun {T lv s b ob0 news} hk hn hw lv' s' ob hg => by
    have hk' := addNews_get hn hk
    have hg' := addNews_get hn hg
    rw [get_put hk']
    by_cases hl : lv' = lv ∧ s' = s
    · obtain ⟨rfl, rfl⟩ := hl
      exact ⟨b, by simp, fun hnot => absurd hw hnot⟩
    · rw [if_neg hl]; exact ⟨ob, hg', fun _ => rfl⟩
  cases op with
  | store n p x =>
    simp only [evalW] at h
    cases hX : evalX S p with
    | ptr lv s ver pa i c =>
      have hwp : (lv, s) ∈ wplaces S (.store n p x) := by simp [wplaces, hX]
      cases hc : (evalX S x).cells with
      | none => simp [hX, hc] at h
      | some ws =>
        simp only [hX, hc] at h
        split at h
        · rename_i bb ys hat
          obtain ⟨ob, hob⟩ := at_key hat
          have agX : ∀ {nz S2}, addNews S nz = some S2 → evalX S2 p = .ptr lv s ver pa i c ∧ (evalX S2 x).cells = some ws ∧ S2.at lv s ver pa = some (bb, ys) := fun {nz S2} hn => by
            have ht := (addNews_tmps hn).1
            have ex : ∀ y : X, evalX S2 y = evalX S y := fun y => by cases y <;> simp [evalX, ht]
            rw [ex, ex]; exact ⟨hX, hc, at_mono (addNews_holds hn lv s) hat⟩
          split at h
          · rename_i row hrow
            split at h
            · rename_i hcond
              split at h
              · rename_i hb
                split at h
                · rename_i hl
                  split at h
                  · rename_i hsc
                    simp only [Option.some.injEq, Prod.mk.injEq] at h
                    obtain ⟨rfl, rfl⟩ := h
                    refine ⟨key hob (news := []) rfl hwp, fun nz S2 H2 hn hm => ?_⟩
                    obtain ⟨Y, y1, rfl⟩ := news_put hob hm
                    rw [hn] at y1; cases y1
                    obtain ⟨a1, a2, a3⟩ := agX hn
                    simp only [evalW, a1, a2, a3, hrow]
                    rw [if_pos hcond, if_pos hb, if_pos hl, if_pos hsc]
                  · cases h
                · rename_i hl
                  split at h
                  · rename_i cs news hbc
                    split at h
                    · rename_i st' hn0
                      simp only [Option.some.injEq, Prod.mk.injEq] at h
                      obtain ⟨rfl, rfl⟩ := h
                      refine ⟨key hob hn0 hwp, fun nz S2 H2 hn hm => ?_⟩
                      obtain ⟨Y, y1, rfl⟩ := news_put (addNews_get hn0 hob) hm
                      obtain ⟨S3, z1, z2⟩ := addNews_comm hn0 y1
                      rw [hn] at z1; cases z1
                      obtain ⟨a1, a2, a3⟩ := agX hn
                      simp only [evalW, a1, a2, a3, hrow]
                      rw [if_pos hcond, if_pos hb, if_neg hl, hbc]
                      simp only [z2]
                    · cases h
                  · cases h
              · rename_i hb
                split at h
                · split at h
                  · rename_i cs hcs
                    simp only [Option.some.injEq, Prod.mk.injEq] at h
                    obtain ⟨rfl, rfl⟩ := h
                    refine ⟨key hob (news := []) rfl hwp, fun nz S2 H2 hn hm => ?_⟩
                    obtain ⟨Y, y1, rfl⟩ := news_put hob hm
                    rw [hn] at y1; cases y1
                    obtain ⟨a1, a2, a3⟩ := agX hn
                    simp only [evalW, a1, a2, a3, hrow]
                    rw [if_pos hcond, if_neg hb]
                    simp only [hcs]
                  · cases h
                · cases h
            · cases h
          · cases h
        · cases h
    | _ => simp [hX] at h
  | app fl sz bytes q x =>
    simp only [evalW] at h
    have agX : ∀ {nz S2}, addNews S nz = some S2 → ∀ y : X, evalX S2 y = evalX S y := fun {nz S2} hn y => by
      have ht := (addNews_tmps hn).1
      cases y <;> simp [evalX, ht]
    have src : ∀ {nz S2 ys}, addNews S nz = some S2 → source S (evalX S x) = some ys → source S2 (evalX S x) = some ys := fun {nz S2 ys} hn hs => by
      cases hv : evalX S x with
      | sl lv s ver p off len =>
        rw [hv] at hs
        simp only [source] at hs ⊢
        cases ha : S.at lv s ver p with
        | none => simp [ha] at hs
        | some w => rw [at_mono (addNews_holds hn lv s) ha]; rw [ha] at hs; exact hs
      | rd fl xs => rw [hv] at hs; cases fl <;> exact hs
      | _ => rw [hv] at hs; exact hs
    split at h
    · rename_i ys hys
      split at h
      · rename_i hall
        split at h
        · rename_i hX
          split at h
          · rename_i hsz
            split at h
            · rename_i st' hn0
              simp only [Option.some.injEq, Prod.mk.injEq] at h
              obtain ⟨rfl, rfl⟩ := h
              have hn1 : addNews S [(base, { ver := 0, sz := sz, box := false, fl := fl, elems := ys })] = some st' := by simp only [addNews]; rw [hn0]
              refine ⟨fun lv s ob hg => ⟨ob, addNews_get hn1 hg, fun _ => rfl⟩, fun nz S2 H2 hn hm => ?_⟩
              obtain ⟨S3, z1, z2⟩ := addNews_comm hn1 hm
              rw [hn] at z1; cases z1
              simp only [evalW, agX hn, src hn hys, hX]
              rw [if_pos hall, if_pos hsz]
              simp only [addNews] at z2
              split at z2
              · rename_i S5 h5; cases z2; rfl
              · cases z2
            · cases h
          · cases h
        · rename_i lv s ver len hX
          have hwp : (lv, s) ∈ wplaces S (.app fl sz bytes q x) := by simp [wplaces, hX]
          split at h
          · rename_i bb xs hat
            obtain ⟨ob, hob⟩ := at_key hat
            split at h
            · rename_i hc
              simp only [Option.some.injEq, Prod.mk.injEq] at h
              obtain ⟨rfl, rfl⟩ := h
              refine ⟨key hob (news := []) rfl hwp, fun nz S2 H2 hn hm => ?_⟩
              obtain ⟨Y, y1, rfl⟩ := news_put hob hm
              rw [hn] at y1; cases y1
              simp only [evalW, agX hn, src hn hys, hX, at_mono (addNews_holds hn lv s) hat]
              rw [if_pos hall, if_pos hc]
            · cases h
          · cases h
        · cases h
      · cases h
    · cases h
  | _ => simp [isSA] at hop

theorem keptL_mem {A B : St} : ∀ {l : List X} {b : X} {lv s : Nat}, keptL A B l → b ∈ l → placeOf (evalX A b) = some (lv, s) → (B.heap lv).get s = (A.heap lv).get s
  | x :: r, b, lv, s, h, hb, hp => by
    rcases List.mem_cons.1 hb with rfl | hb
    · have h1 := h.1
      rw [hp] at h1
      exact h1
    · exact keptL_mem h.2 hb hp
theorem news_sub : ∀ {n : List (Nat × Blk)} {S H X : St}, (∀ s ob, S.loc.get s = some ob → ∃ ob', H.loc.get s = some ob') → addNews H n = some X → ∃ Y, addNews S n = some Y
  | [], S, H, X, _, _ => ⟨S, rfl⟩
  | (t, c) :: r, S, H, X, hs, h => by
    simp only [addNews] at h ⊢
    cases hn : H.new t c with
    | none => simp [hn] at h
    | some H4 =>
      rw [hn] at h
      obtain ⟨h1, rfl⟩ := new_get hn
      have h2 : S.loc.get t = none := by
        cases hg : S.loc.get t with
        | none => rfl
        | some ob => obtain ⟨ob', hh⟩ := hs t ob hg; rw [h1] at hh; cases hh
      rw [new_iff.2 ⟨h2, rfl⟩]
      refine news_sub (H := { H with loc := H.loc.set t (some c) }) (fun s ob hg => ?_) h
      simp only at hg ⊢
      rw [get_set] at hg ⊢
      by_cases hst : s = t
      · rw [if_pos hst]; exact ⟨_, rfl⟩
      · rw [if_neg hst] at hg ⊢; exact hs s ob hg
theorem apartOk_tmps {op : I} (h : S'.tmps = S.tmps) : ∀ {l : List X}, apartOk S' op l = apartOk S op l
  | [] => rfl
  | x :: r => by
    have ex : ∀ y : X, evalX S' y = evalX S y := fun y => by cases y <;> simp [evalX, h]
    have hw : wplaces S' op = wplaces S op := by cases op <;> simp [wplaces, ex]
    simp only [apartOk, ex, hw]
    rw [apartOk_tmps h]
theorem swap_ok {O : Oracle} {md : Nat → Mode} {y z : IOp} {S1 S2 : St} (hs : swapOk md y z = true) (h1 : evalOp O md y S = some S1) (h2 : evalOp O md z S1 = some S2) :
    ∃ S3, evalOp O md z S = some S3 ∧ evalOp O md y S3 = some S2 := by
  unfold swapOk at hs
  simp only [Bool.and_eq_true] at hs
  obtain ⟨hi, hs⟩ := hs
  obtain ⟨i1, i2, i3⟩ := indep_spec hi
  -- y is still
  have A : Still O md y S S1 → ∃ S3, evalOp O md z S = some S3 ∧ evalOp O md y S3 = some S2 := fun ⟨v, e1, hy⟩ => by
    subst e1
    obtain ⟨u, H, rfl, hH, hz⟩ := evalOp_char h2
    have hz' := hz S.tmps (by rw [setT_wt, wt_wt]; exact agree_set i1)
    rw [setT_wt, wt_wt, wt_self] at hz'
    refine ⟨_, hz', ?_⟩
    rw [hy _ (by rw [wt_setT]; exact fun n hn => (agree_set' (S := S) (S' := H) i3 n hn))]
    rw [wt_setT, wt_setT, setT_wt, hH, setT_wt, wt_tmps, dset_comm i2]
  -- z is still
  have B : Still O md z S1 S2 → ∃ S3, evalOp O md z S = some S3 ∧ evalOp O md y S3 = some S2 := fun ⟨u, e2, hz⟩ => by
    subst e2
    obtain ⟨v, H, rfl, hH, hy⟩ := evalOp_char h1
    refine ⟨_, hz S (by rw [setT_wt, hH]; exact fun n hn => (agree_set (S := H) (S' := S) i1 n hn)), ?_⟩
    rw [setT_wt, hy _ (agree_set' i3), wt_setT, setT_wt, setT_wt, hH, wt_wt, wt_tmps, dset_comm i2]
  rcases evalOp_cases h1 with ⟨g1, e1⟩ | ⟨g1, e1⟩
  · exact A (still_skip g1 e1)
  rcases evalOp_cases h2 with ⟨g2, e2⟩ | ⟨g2, e2⟩
  · exact B (still_skip g2 e2)
  simp only [Bool.or_eq_true] at hs
  have agz : Agree S1 S z.reads := by
    obtain ⟨v, H, rfl, hH, _⟩ := evalOp_char h1
    rw [setT_wt, hH]; exact fun n hn => (agree_set (S := H) (S' := S) i1 n hn)
  have zap : ∀ {S S' : St}, Agree S S' z.reads → Agree S S' (z.apart.flatMap xTmp) := fun h => h.mono fun n hn => by unfold IOp.reads; simp only [List.mem_append]; exact .inr hn
  have yap : ∀ {S S' : St}, Agree S S' y.reads → Agree S S' (y.apart.flatMap xTmp) := fun h => h.mono fun n hn => by unfold IOp.reads; simp only [List.mem_append]; exact .inr hn
  -- both are quiet
  have quiet : ∀ {x : IOp} {S S1 : St}, (memOf md x.op).w = false → evalI O md x S = some S1 → quietOk S x.op x.apart = true ∧ ∃ v n H, evalQ O md S x.base x.op = some (v, n) ∧ addNews S n = some H ∧ S1 = H.setT x.dst v := fun {x S S1} hw h => by
    unfold evalI at h
    rw [writes_w, hw] at h
    simp only [Bool.false_eq_true, if_false] at h
    split at h
    · rename_i hqo
      refine ⟨hqo, ?_⟩
      split at h
      · rename_i v n hq
        split at h
        · rename_i H hn
          cases h
          exact ⟨v, n, H, hq, hn, rfl⟩
        · cases h
      · cases h
    · cases h
  have toQuiet : ∀ {x : IOp} {S H : St} {v : AV} {n : List (Nat × Blk)}, (memOf md x.op).w = false → guardOf S x.g = some true → quietOk S x.op x.apart = true → evalQ O md S x.base x.op = some (v, n) → addNews S n = some H → evalOp O md x S = some (H.setT x.dst v) := fun {x S H v n} hw hg hqo hq hn => by
    unfold evalOp evalI
    rw [hg, writes_w, hw]
    simp only [Bool.false_eq_true, if_false]
    rw [if_pos hqo, hq]; simp only []; rw [hn]
  have rd : ∀ {op : I} {a : X}, readsAt op = some a → memOf md op = ⟨true, false, false, false⟩ := fun {op a} ha => by
    cases op <;> first | rfl | (simp [readsAt] at ha; done) | skip
    rename_i str x; cases str <;> first | rfl | simp [readsAt] at ha
  rcases hs with ((((((hs | hs) | hs) | hs) | hs) | hs) | hs) | hs
  · rw [Bool.and_eq_true] at hs; exact A (still_pure (List.isEmpty_iff.1 hs.2) hs.1 g1 e1)
  · rw [Bool.and_eq_true] at hs; exact B (still_pure (List.isEmpty_iff.1 hs.2) hs.1 g2 e2)
  · simp only [Mem.free, Bool.and_eq_true, Bool.not_eq_true', Bool.and_eq_false_iff, Bool.or_eq_true] at hs
    obtain ⟨⟨⟨⟨yw, zw⟩, ykt⟩, yvk⟩, zq⟩ := hs
    obtain ⟨o1, v, n, H, q1, q2, rfl⟩ := quiet yw e1
    obtain ⟨o2, u, m, H2, q3, q4, rfl⟩ := quiet zw e2
    have ht := (addNews_tmps q2).1
    have ag : Agree (H.setT y.dst v) S z.reads := by
      rw [setT_wt, ht]; exact fun n hn => (agree_set (S := H) (S' := S) i1 n hn)
    have heap0 : (memOf md z.op).t = true → n = [] := fun hzt => by
      rcases ykt with h | h
      · exact evalQ_none h q1
      · rw [hzt] at h; cases h
    have vt : ∀ op, (memOf md op).v = true → (memOf md op).t = true := fun op h => by
      cases op with
      | call f a fl => cases hm : md f <;> simp [memOf, hm] at h ⊢
      | len s x => cases s <;> simp [memOf] at h
      | _ => first | rfl | (simp [memOf] at h; done)
    have hra : ∀ {op : I} {a : X}, readsAt op = some a → (memOf md op).t = true := fun {op a} ha => by
      cases op <;> first | rfl | (simp [readsAt] at ha; done) | skip
      rename_i str x; cases str <;> first | rfl | simp [readsAt] at ha
    have same : n = [] → H = S := fun e => by subst e; cases q2; rfl
    have z1 : evalQ O md S z.base z.op = some (u, m) := by
      refine evalQ_mono ag.op (fun a h3 lv s _ b hb => ?_) (fun _ h3 lv s b hb => ?_) (fun h3 => ?_) q3
      · rw [← same (heap0 (hra h3)), ← setT_blk y.dst v]; exact hb
      · rw [← same (heap0 h3), ← setT_blk y.dst v]; exact hb
      · have := same (heap0 (vt _ h3))
        subst this
        cases y.dst <;> exact ⟨rfl, rfl⟩
    have q4' : addNews H m = some (H2.wt H.tmps) := by
      have := addNews_wt (ts := H.tmps) q4
      rwa [setT_wt, wt_wt, wt_self] at this
    obtain ⟨H3, j1, j2⟩ := addNews_comm q2 q4'
    have o2' : quietOk S z.op z.apart = true := by
      rcases zq with ((h | h) | h) | h
      rotate_left 3
      · cases hz : readsAt z.op with
        | some a =>
          unfold quietOk at o2 ⊢
          rw [hz] at o2 ⊢
          simp only at o2 ⊢
          rw [rootsOk_agree (ag.op.mono (readsAt_sub hz)) (zap ag)]; exact o2
        | none =>
          have hy0 : readsAt y.op = none := by simpa using h.1
          have o1k : keyedOk S y.apart = true := by unfold quietOk at o1; rw [hy0] at o1; exact o1
          unfold quietOk; rw [hz]
          refine keyedOk_of fun x hx lv s hp => ?_
          have := List.all_eq_true.1 h.2 x hx
          obtain ⟨c, hc, hs⟩ := List.any_eq_true.1 this
          have := same_eq hs
          subst this
          exact keyedOk_mem o1k hc hp
      · rw [List.isEmpty_iff.1 h]; exact quietOk_nil _
      · obtain ⟨a, ha⟩ := Option.isSome_iff_exists.1 h
        unfold quietOk at o2 ⊢
        rw [ha] at o2 ⊢
        simp only at o2 ⊢
        rw [rootsOk_agree (ag.op.mono (readsAt_sub ha)) (zap ag)]; exact o2
      · have := same (evalQ_none h q1)
        subst this
        have hwt := quietOk_wt (S := H.setT y.dst v) (ts := H.tmps) (op := z.op) (l := z.apart) (by rw [setT_wt, wt_wt, wt_self, ← setT_wt]; exact ag.op) (by rw [setT_wt, wt_wt, wt_self, ← setT_wt]; exact zap ag)
        rw [o2] at hwt
        have e : (H.setT y.dst v).wt H.tmps = H := by rw [setT_wt, wt_wt, wt_self]
        rw [e] at hwt; exact hwt
    refine ⟨_, toQuiet zw (by rw [← guardOf_agree ag.g] at g2; exact g2) o2' z1 j1, ?_⟩
    have t3 := (addNews_tmps j1).1
    have ag2 : Agree S (H3.setT z.dst u) y.reads := by
      rw [setT_wt, t3]; exact fun n hn => (agree_set' (S := S) (S' := H3) i3 n hn)
    have y1 : evalQ O md (H3.setT z.dst u) y.base y.op = some (v, n) := by
      refine evalQ_mono ag2.op (fun a h3 lv s _ b hb => ?_) (fun _ h3 lv s b hb => ?_) (fun h3 => ?_) q1
      · rw [setT_blk]; exact addNews_holds j1 lv s b hb
      · rw [setT_blk]; exact addNews_holds j1 lv s b hb
      · have hm : m = [] := by
          rcases yvk with h | h
          · rw [h3] at h; cases h
          · exact evalQ_none h z1
        subst hm
        cases j1
        cases z.dst <;> exact ⟨rfl, rfl⟩
    have j3 : addNews (H3.setT z.dst u) n = some ((H2.wt H.tmps).wt (dset H3.tmps z.dst u)) := by rw [setT_wt]; exact addNews_wt j2
    have o1' : quietOk (H3.setT z.dst u) y.op y.apart = true := by
      unfold quietOk at o1 ⊢
      cases ha : readsAt y.op with
      | none =>
        rw [ha] at o1
        exact keyedOk_mono (yap ag2) (fun lv s ob hg => by rw [setT_heap]; exact addNews_get j1 hg) o1
      | some a =>
        rw [ha] at o1
        simp only at o1 ⊢
        rw [rootsOk_agree (ag2.op.mono (readsAt_sub ha)) (yap ag2)]; exact o1
    rw [toQuiet yw (by rw [guardOf_agree ag2.g]; exact g1) o1' y1 j3]
    rw [wt_wt, wt_setT, setT_wt]
    have t2 : H2.tmps = dset H.tmps y.dst v := by rw [(addNews_tmps q4).1, setT_wt, wt_tmps]
    rw [t2, t3, ht, dset_comm i2]
  · rw [Bool.and_eq_true] at hs
    obtain ⟨hl, hop⟩ := hs
    cases hra : readsAt y.op with
    | none => simp [underAny, hra] at hl
    | some a =>
      have hm := rd hra
      have yw : (memOf md y.op).w = false := by rw [hm]
      obtain ⟨o1, v, n, H, q1, q2, rfl⟩ := quiet yw e1
      have hn := evalQ_none (by rw [hm]) q1
      subst hn
      cases q2
      have o1r : rootsOk S a y.apart = true := by unfold quietOk at o1; rw [hra] at o1; exact o1
      obtain ⟨u, H2, rfl, hH, hz⟩ := evalOp_char h2
      have ag : Agree (S.setT y.dst v) S z.reads := agz
      have hz' := hz S.tmps (by rw [setT_wt, wt_wt]; exact agree_set i1)
      rw [setT_wt, wt_wt, wt_self] at hz'
      refine ⟨_, hz', ?_⟩
      have hw : writes md z.op = true := by
        cases hzo : z.op <;> rw [hzo] at hop <;> first | rfl | simp at hop
      have e2' : evalI O md z S = some ((H2.wt S.tmps).setT z.dst u) := by
        have gz : guardOf S z.g = some true := by rw [← guardOf_agree ag.g] at g2; exact g2
        unfold evalOp at hz'; rw [gz] at hz'; exact hz'
      unfold evalI at e2'
      rw [if_pos hw] at e2'
      split at e2'
      · rename_i hap
        split at e2'
        · rename_i u' H3 hq
          obtain ⟨hq, hkp⟩ := evalK_some.1 hq
          simp only [Option.some.injEq] at e2'
          obtain ⟨b, hb, hpl, _⟩ := underAny_spec hl hra o1r
          have ag2 : Agree S ((H2.wt S.tmps).setT z.dst u) y.reads := by rw [wt_setT]; exact fun n hn => (agree_set' (S := S) (S' := H2) i3 n hn)
          have y1 : evalQ O md ((H2.wt S.tmps).setT z.dst u) y.base y.op = some (v, []) := by
            refine evalQ_mono ag2.op (fun a' h3 lv s hp b' hb' => ?_) (fun h3 => by rw [hra] at h3; cases h3) (fun h3 => by rw [hm] at h3; cases h3) q1
            rw [hra] at h3; cases h3
            rw [← e2', setT_blk]
            exact evalW_holds hop (apartOk_mem (Bool.and_eq_true _ _ ▸ hap).1 hb (by rw [hpl]; exact points_place hp)) (by rw [← evalV_sa (O := O) (md := md) hop]; exact hq) b' hb'
          have o1' : quietOk ((H2.wt S.tmps).setT z.dst u) y.op y.apart = true := by
            unfold quietOk; rw [hra]; simp only
            rw [rootsOk_agree (ag2.op.mono (readsAt_sub hra)) (yap ag2)]; exact o1r
          rw [toQuiet yw (by rw [guardOf_agree ag2.g]; exact g1) o1' y1 rfl]
          rw [wt_setT, setT_wt, setT_wt, hH, setT_wt, wt_tmps, wt_tmps, wt_wt, dset_comm i2]
        · cases e2'
      · cases e2'
  · simp only [Bool.and_eq_true, Bool.not_eq_true'] at hs
    obtain ⟨⟨yw, yr⟩, hu⟩ := hs
    cases hra : readsAt z.op with
    | none => simp [underAny, hra] at hu
    | some a =>
      have hm := rd hra
      have zw : (memOf md z.op).w = false := by rw [hm]
      obtain ⟨o1, v, n, H, q1, q2, rfl⟩ := quiet yw e1
      obtain ⟨o2, u, m, H2, q3, q4, rfl⟩ := quiet zw e2
      have hmn := evalQ_none (by rw [hm]) q3
      subst hmn
      cases q4
      have ht := (addNews_tmps q2).1
      have o2r : rootsOk (H.setT y.dst v) a z.apart = true := by unfold quietOk at o2; rw [hra] at o2; exact o2
      obtain ⟨b, hb, hpl, hba⟩ := underAny_spec hu hra o2r
      have o1k : keyedOk S y.apart = true := by
        unfold quietOk at o1
        have : readsAt y.op = none := by simpa using yr
        rw [this] at o1; exact o1
      have hbS : evalX (H.setT y.dst v) b = evalX S b := by
        refine (agree_X (x := b) ?_).symm
        rcases hba with rfl | hba
        · exact agz.op.mono (readsAt_sub hra)
        · exact (zap agz).mono fun n hn => List.mem_flatMap.2 ⟨b, hba, hn⟩
      have z1 : evalQ O md S z.base z.op = some (u, []) := by
        refine evalQ_mono agz.op (fun a' h3 lv s hp b' hb' => ?_) (fun h3 => by rw [hra] at h3; cases h3) (fun h3 => by rw [hm] at h3; cases h3) q3
        rw [hra] at h3; cases h3
        have hpb : placeOf (evalX S b) = some (lv, s) := by rw [← hbS, hpl]; exact points_place hp
        obtain ⟨ob, hob⟩ := keyedOk_mem o1k hb hpb
        rw [setT_blk] at hb'
        unfold St.blk at hb' ⊢
        rw [addNews_get q2 hob] at hb'
        rw [hob]; exact hb'
      have o2' : quietOk S z.op z.apart = true := by
        unfold quietOk; rw [hra]; simp only
        rw [rootsOk_agree (agz.op.mono (readsAt_sub hra)) (zap agz)]; exact o2r
      refine ⟨_, toQuiet zw (by rw [← guardOf_agree agz.g] at g2; exact g2) o2' z1 rfl, ?_⟩
      have ag2 : Agree S (S.setT z.dst u) y.reads := by
        rw [setT_wt]; exact fun n hn => (agree_set' (S := S) (S' := S) i3 n hn)
      have y1 : evalQ O md (S.setT z.dst u) y.base y.op = some (v, n) := by
        refine evalQ_mono ag2.op (fun a h3 lv s _ b hb => by rw [setT_blk]; exact hb) (fun _ h3 lv s b hb => by rw [setT_blk]; exact hb) (fun h3 => by cases z.dst <;> exact ⟨rfl, rfl⟩) q1
      have o1' : quietOk (S.setT z.dst u) y.op y.apart = true := by
        rw [setT_wt]
        rw [quietOk_wt (by rw [← setT_wt]; exact ag2.op) (by rw [← setT_wt]; exact yap ag2)]; exact o1
      have j3 : addNews (S.setT z.dst u) n = some (H.wt (dset S.tmps z.dst u)) := by rw [setT_wt]; exact addNews_wt q2
      rw [toQuiet yw (by rw [guardOf_agree ag2.g]; exact g1) o1' y1 j3]
      have e : H.setT y.dst v = H.wt (dset H.tmps y.dst v) := setT_wt _ _
      rw [wt_setT, e, setT_wt, wt_wt, wt_tmps, ht, dset_comm i2]
  · rw [Bool.and_eq_true] at hs
    obtain ⟨hsa, hu⟩ := hs
    have hwy : writes md y.op = true := by
      cases hyo : y.op <;> rw [hyo] at hsa <;> first | rfl | simp [isSA] at hsa
    obtain ⟨v0, H0, hv0, hH0, hy0⟩ := evalOp_char h1
    unfold evalI at e1
    rw [if_pos hwy] at e1
    split at e1
    rotate_left
    · cases e1
    rename_i hap
    rw [Bool.and_eq_true] at hap
    split at e1
    rotate_left
    · cases e1
    rename_i v H hq
    have hq := (evalV_sa hsa) ▸ (evalK_some.1 hq).1
    cases e1
    cases hra : readsAt z.op with
    | none => simp [underAny, hra] at hu
    | some a =>
      have hm := rd hra
      have zw : (memOf md z.op).w = false := by rw [hm]
      obtain ⟨o2, u, m, H2, q3, q4, rfl⟩ := quiet zw e2
      have hmn := evalQ_none (by rw [hm]) q3
      subst hmn
      cases q4
      have o2r : rootsOk (H.setT y.dst v) a z.apart = true := by unfold quietOk at o2; rw [hra] at o2; exact o2
      obtain ⟨b, hb, hpl, hba⟩ := underAny_spec hu hra o2r
      have hbS : evalX (H.setT y.dst v) b = evalX S b := by
        refine (agree_X (x := b) ?_).symm
        rcases hba with rfl | hba
        · exact agz.op.mono (readsAt_sub hra)
        · exact (zap agz).mono fun n hn => List.mem_flatMap.2 ⟨b, hba, hn⟩
      have z1 : evalQ O md S z.base z.op = some (u, []) := by
        refine evalQ_mono agz.op (fun a' h3 lv s hp b' hb' => ?_) (fun h3 => by rw [hra] at h3; cases h3) (fun h3 => by rw [hm] at h3; cases h3) q3
        rw [hra] at h3; cases h3
        have hpb : placeOf (evalX S b) = some (lv, s) := by rw [← hbS, hpl]; exact points_place hp
        obtain ⟨ob, hob⟩ := keyedOk_mem hap.2 hb hpb
        obtain ⟨ob', g1', g2'⟩ := (evalW_sa hsa hq).1 lv s ob hob
        have := g2' (apartOk_mem hap.1 hb hpb)
        subst this
        rw [setT_blk] at hb'
        unfold St.blk at hb' ⊢
        rw [g1'] at hb'
        rw [hob]; exact hb'
      have o2' : quietOk S z.op z.apart = true := by
        unfold quietOk; rw [hra]; simp only
        rw [rootsOk_agree (agz.op.mono (readsAt_sub hra)) (zap agz)]; exact o2r
      refine ⟨_, toQuiet zw (by rw [← guardOf_agree agz.g] at g2; exact g2) o2' z1 rfl, ?_⟩
      rw [hv0]
      rw [setT_wt, hy0 _ (agree_set' i3), wt_setT, setT_wt, setT_wt, hH0, wt_wt, wt_tmps, dset_comm i2]
  · simp only [Bool.and_eq_true] at hs
    obtain ⟨⟨hsa, hmk⟩, hsub⟩ := hs
    have hwy : writes md y.op = true := by
      cases hyo : y.op <;> rw [hyo] at hsa <;> first | rfl | simp [isSA] at hsa
    have zm : memOf md z.op = ⟨false, false, true, false⟩ ∧ readsAt z.op = none := by
      cases hzo : z.op <;> rw [hzo] at hmk <;> first | exact ⟨rfl, rfl⟩ | simp [isMk] at hmk
    unfold evalI at e1
    rw [if_pos hwy] at e1
    split at e1
    rotate_left
    · cases e1
    rename_i hap
    rw [Bool.and_eq_true] at hap
    split at e1
    rotate_left
    · cases e1
    rename_i v H hq
    have hq := (evalV_sa hsa) ▸ (evalK_some.1 hq).1
    cases e1
    have hHt := evalW_tmps hq
    obtain ⟨o2, u, m, H2, q3, q4, rfl⟩ := quiet (by rw [zm.1]) e2
    have z1 : evalQ O md S z.base z.op = some (u, m) :=
      evalQ_mono agz.op (fun a' h3 => by rw [zm.2] at h3; cases h3) (fun _ h3 => by rw [zm.1] at h3; cases h3) (fun h3 => by rw [zm.1] at h3; cases h3) q3
    have q4' : addNews H m = some (H2.wt H.tmps) := by
      have := addNews_wt (ts := H.tmps) q4
      rwa [setT_wt, wt_wt, wt_self] at this
    obtain ⟨Y, hY⟩ := news_sub (fun s ob hg => by
      obtain ⟨ob', g1', _⟩ := (evalW_sa hsa hq).1 0 s ob hg
      exact ⟨ob', g1'⟩) q4'
    have hYt := (addNews_tmps hY).1
    have o2' : quietOk S z.op z.apart = true := by
      unfold quietOk; rw [zm.2]
      refine keyedOk_of fun x hx lv s hp => ?_
      obtain ⟨c, hc, hs⟩ := List.any_eq_true.1 (List.all_eq_true.1 hsub x hx)
      have := same_eq hs
      subst this
      exact keyedOk_mem hap.2 hc hp
    refine ⟨_, toQuiet (by rw [zm.1]) (by rw [← guardOf_agree agz.g] at g2; exact g2) o2' z1 hY, ?_⟩
    have hqY := (evalW_sa hsa hq).2 m Y _ hY q4'
    have same : ∀ l, Agree S Y l := fun l n _ => by rw [hYt]
    have ag : Agree Y (Y.wt (dset Y.tmps z.dst u)) y.reads := by
      have := agree_set' (S := Y) (S' := Y) (ts := Y.tmps) (d := z.dst) (v := u) i3
      exact this
    have apY : apartOk Y y.op y.apart = true := by rw [apartOk_tmps hYt]; exact hap.1
    have kyY : keyedOk Y y.apart = true := keyedOk_mono (same _) (fun lv s ob hg => addNews_get hY hg) hap.2
    rw [setT_wt]
    unfold evalOp
    rw [guardOf_wt ag.g, guardOf_agree (same _), g1]
    simp only []
    unfold evalI
    rw [if_pos hwy, apartOk_wt ag.op (yap ag), keyedOk_wt (yap ag), apY, kyY, evalK_some.2 ⟨by rw [evalV_sa hsa]; exact evalW_wt ag.op hqY, by cases hyo : y.op <;> rw [hyo] at hsa <;> first | trivial | simp [isSA] at hsa⟩]
    simp only [Bool.and_self, if_true]
    have hH2t : H2.tmps = dset S.tmps y.dst v := by rw [(addNews_tmps q4).1, setT_wt, wt_tmps, hHt]
    rw [wt_wt, wt_setT, setT_wt, hH2t, hYt, dset_comm i2]
  · rw [Bool.and_eq_true] at hs
    obtain ⟨hop, hl⟩ := hs
    cases hra : readsAt y.op with
    | none => simp [underAny, hra] at hl
    | some a =>
      have hm := rd hra
      have yw : (memOf md y.op).w = false := by rw [hm]
      obtain ⟨o1, v, n, H, q1, q2, rfl⟩ := quiet yw e1
      have hn := evalQ_none (by rw [hm]) q1
      subst hn
      cases q2
      have o1r : rootsOk S a y.apart = true := by unfold quietOk at o1; rw [hra] at o1; exact o1
      obtain ⟨u, H2, rfl, hH, hz⟩ := evalOp_char h2
      have ag : Agree (S.setT y.dst v) S z.reads := agz
      have hz' := hz S.tmps (by rw [setT_wt, wt_wt]; exact agree_set i1)
      rw [setT_wt, wt_wt, wt_self] at hz'
      refine ⟨_, hz', ?_⟩
      have hw : writes md z.op = true := by
        cases hzo : z.op <;> rw [hzo] at hop <;> first | (simp [isRefCall] at hop; done) | skip
        rename_i f xs fl
        cases hmd : md f <;> simp [isRefCall, hmd] at hop
        simp [writes, hmd]
      have hkl : ∀ {A B : St} {l : List X}, keptOk A B z.op l → keptL A B l := fun {A B l} hk => by
        cases hzo : z.op <;> rw [hzo] at hop hk <;> first | (simp [isRefCall] at hop; done) | exact hk
      have e2' : evalI O md z S = some ((H2.wt S.tmps).setT z.dst u) := by
        have gz : guardOf S z.g = some true := by rw [← guardOf_agree ag.g] at g2; exact g2
        unfold evalOp at hz'; rw [gz] at hz'; exact hz'
      unfold evalI at e2'
      rw [if_pos hw] at e2'
      split at e2'
      · rename_i hap
        split at e2'
        · rename_i u' H3 hq
          obtain ⟨hq, hkp⟩ := evalK_some.1 hq
          simp only [Option.some.injEq] at e2'
          obtain ⟨b, hb, hpl, _⟩ := underAny_spec hl hra o1r
          have ag2 : Agree S ((H2.wt S.tmps).setT z.dst u) y.reads := by rw [wt_setT]; exact fun n hn => (agree_set' (S := S) (S' := H2) i3 n hn)
          have y1 : evalQ O md ((H2.wt S.tmps).setT z.dst u) y.base y.op = some (v, []) := by
            refine evalQ_mono ag2.op (fun a' h3 lv s hp b' hb' => ?_) (fun h3 => by rw [hra] at h3; cases h3) (fun h3 => by rw [hm] at h3; cases h3) q1
            rw [hra] at h3; cases h3
            rw [← e2', setT_blk]
            have hk := keptL_mem (hkl hkp) hb (by rw [hpl]; exact points_place hp)
            unfold St.blk at hb' ⊢
            rw [hk]; exact hb'
          have o1' : quietOk ((H2.wt S.tmps).setT z.dst u) y.op y.apart = true := by
            unfold quietOk; rw [hra]; simp only
            rw [rootsOk_agree (ag2.op.mono (readsAt_sub hra)) (yap ag2)]; exact o1r
          rw [toQuiet yw (by rw [guardOf_agree ag2.g]; exact g1) o1' y1 rfl]
          rw [wt_setT, setT_wt, setT_wt, hH, setT_wt, wt_tmps, wt_tmps, wt_wt, dset_comm i2]
        · cases e2'
      · cases e2'
end
end Go.Ae
namespace Go.Ae
open Go.RowKit
set_option linter.unusedVariables false
set_option linter.unusedSimpArgs false
section
variable {P : Program} {w0 : World} {M : Nat → Nat → Path → Option Nat} {R : Nat → Prop} {S0 : St} {g0 : G}

theorem mem_filter_sub {p q : X → Bool} (h : ∀ x, p x = true → q x = true) (l : List X) : ∀ x ∈ l.filter p, x ∈ l.filter q := fun x hx => by
  rw [List.mem_filter] at hx ⊢; exact ⟨hx.1, h x hx.2⟩
theorem apartOk_iff {op : I} {S : St} : ∀ {l : List X}, apartOk S op l = true ↔ ∀ x ∈ l, apartOk S op [x] = true
  | [] => by simp [apartOk]
  | x :: r => by
    have := apartOk_iff (op := op) (S := S) (l := r)
    simp only [apartOk, Bool.and_eq_true, List.mem_cons, forall_eq_or_imp, Bool.and_true] at this ⊢
    rw [this]
theorem keyedOk_iff {S : St} : ∀ {l : List X}, keyedOk S l = true ↔ ∀ x ∈ l, keyedOk S [x] = true
  | [] => by simp [keyedOk]
  | x :: r => by
    have := keyedOk_iff (S := S) (l := r)
    simp only [keyedOk, Bool.and_eq_true, List.mem_cons, forall_eq_or_imp, Bool.and_true] at this ⊢
    rw [this]
theorem rootsOk_iff {S : St} {a : X} : ∀ {l : List X}, rootsOk S a l = true ↔ ∀ x ∈ l, rootsOk S a [x] = true
  | [] => by simp [rootsOk]
  | x :: r => by
    have := rootsOk_iff (S := S) (a := a) (l := r)
    simp only [rootsOk, Bool.and_eq_true, List.mem_cons, forall_eq_or_imp, Bool.and_true] at this ⊢
    rw [this]
theorem keptL_iff {S S' : St} : ∀ {l : List X}, keptL S S' l ↔ ∀ x ∈ l, keptL S S' [x]
  | [] => by simp [keptL]
  | x :: r => by
    have := keptL_iff (S := S) (S' := S') (l := r)
    simp only [keptL, List.mem_cons, forall_eq_or_imp, and_true] at this ⊢
    rw [this]
/-- With fewer hints it comes to the same. -/
theorem evalOp_fewer {O : Oracle} {md : Nat → Mode} {z : IOp} {l : List X} {S S' : St} (hl : ∀ x ∈ l, x ∈ z.apart) (h : evalOp O md z S = some S') : evalOp O md { z with apart := l } S = some S' := by
  unfold evalOp at h ⊢
  split at h
  · rename_i hg
    simp only [hg]
    unfold evalI at h ⊢
    split at h
    · rename_i hw
      simp only [hw, if_true]
      split at h
      · rename_i hc
        simp only [Bool.and_eq_true] at hc
        have h1 : apartOk S z.op l = true := apartOk_iff.2 fun x hx => apartOk_iff.1 hc.1 x (hl x hx)
        have h2 : keyedOk S l = true := keyedOk_iff.2 fun x hx => keyedOk_iff.1 hc.2 x (hl x hx)
        simp only [h1, h2, Bool.and_self, if_true]
        split at h
        · rename_i v st' hk
          rw [evalK_some] at hk
          have : evalK O md S z.base z.op l = some (v, st') := by
            rw [evalK_some]
            refine ⟨hk.1, ?_⟩
            have h3 := hk.2
            unfold keptOk at h3 ⊢
            split at h3
            · exact keptL_iff.2 fun x hx => keptL_iff.1 h3 x (hl x hx)
            · trivial
          rw [this]; exact h
        · cases h
      · cases h
    · rename_i hw
      simp only [hw]
      split at h
      · rename_i hc
        have : quietOk S z.op l = true := by
          unfold quietOk at hc ⊢
          split at hc
          · exact rootsOk_iff.2 fun x hx => rootsOk_iff.1 hc x (hl x hx)
          · exact keyedOk_iff.2 fun x hx => keyedOk_iff.1 hc x (hl x hx)
        simp only [this, if_true]
        exact h
      · cases h
  · rename_i hg; simp only [hg]; exact h
  · cases h
theorem move_front {O : Oracle} {md : Nat → Mode} {dn : Nat → Nat} {z : IOp} : ∀ (p q : List IOp) {S S' : St}, (∀ y ∈ p, swapOk md y (z.avail dn y.ix) = true) → (p.Pairwise fun x y => x.ix < y.ix) → evalOps O md (p ++ z :: q) S = some S' →
    ∃ S3 l, (∀ x ∈ l, x ∈ z.apart) ∧ (∀ x ∈ z.apart, (∀ y ∈ p.head?, availX dn y.ix x = true) → x ∈ l) ∧ evalOp O md { z with apart := l } S = some S3 ∧ evalOps O md (p ++ q) S3 = some S'
  | [], q, S, S', hp, hs, h => by
    simp only [List.nil_append, evalOps] at h
    split at h
    · rename_i S3 h3; exact ⟨S3, z.apart, fun x hx => hx, fun x hx _ => hx, h3, h⟩
    · cases h
  | y :: p, q, S, S', hp, hs, h => by
    simp only [List.cons_append, evalOps] at h
    split at h
    · rename_i S1 h1
      obtain ⟨S2, l, k0, k1, k2, k3⟩ := move_front p q (fun x hx => hp x (List.mem_cons_of_mem _ hx)) (List.pairwise_cons.1 hs).2 h
      have hsub : ∀ x ∈ (z.avail dn y.ix).apart, x ∈ l := fun x hx => by
        simp only [IOp.avail, List.mem_filter] at hx
        refine k1 x hx.1 fun y' hy' => ?_
        have hlt : y.ix < y'.ix := (List.pairwise_cons.1 hs).1 y' (List.mem_of_mem_head? hy')
        have h4 := hx.2
        cases x with
        | t m => simp only [availX, decide_eq_true_eq] at h4 ⊢; omega
        | k v => rfl
      have k2' := evalOp_fewer (z := { z with apart := l }) (l := (z.avail dn y.ix).apart) hsub k2
      obtain ⟨S3, j1, j2⟩ := swap_ok (hp y List.mem_cons_self) h1 k2'
      refine ⟨S3, (z.avail dn y.ix).apart, fun x hx => (List.mem_filter.1 hx).1, fun x hx ha => List.mem_filter.2 ⟨hx, ha y rfl⟩, j1, ?_⟩
      simp only [List.cons_append, evalOps]
      rw [j2]; exact k3
    · cases h

theorem preAll_take : ∀ (l : List Oper) (acc : List Nat), (preAll l acc).take acc.length = acc
  | [], acc => by simp [preAll]
  | o :: r, acc => by
    have := preAll_take r (acc ++ [pre acc o])
    simp only [preAll]
    have h2 := congrArg (List.take acc.length) this
    rw [List.take_take] at h2
    simp only [List.length_append, List.length_singleton] at h2
    rw [Nat.min_eq_left (by omega)] at h2
    rw [h2]; simp
theorem preAll_at : ∀ (l : List Oper) (acc : List Nat) (i : Nat) (o : Oper), l[i]? = some o → (preAll l acc).getD (acc.length + i) 0 = pre ((preAll l acc).take (acc.length + i)) o
  | [], acc, i, o, h => by simp at h
  | x :: r, acc, 0, o, h => by
    simp only [List.getElem?_cons_zero, Option.some.injEq] at h
    subst h
    have h1 := preAll_take r (acc ++ [pre acc x])
    have h2 := preAll_take (x :: r) acc
    simp only [Nat.add_zero]
    rw [h2]
    simp only [preAll]
    have h3 : ((preAll r (acc ++ [pre acc x])).take (acc ++ [pre acc x]).length)[acc.length]? = (acc ++ [pre acc x])[acc.length]? := by rw [h1]
    simp only [List.length_append, List.length_singleton] at h3
    rw [List.getElem?_take_of_lt (by omega)] at h3
    simp only [List.getD_eq_getElem?_getD]
    rw [h3]; simp
  | x :: r, acc, i + 1, o, h => by
    have := preAll_at r (acc ++ [pre acc x]) i o (by simpa using h)
    simp only [List.length_append, List.length_singleton] at this
    simp only [preAll]
    rw [show acc.length + (i + 1) = acc.length + 1 + i by omega]
    exact this

theorem pre_bit {acc : List Nat} {o : Oper} {y : Nat} : (pre acc o).testBit y = true ↔ ∃ e ∈ o.after.toList, Region.binds .any e = true ∧ (e.on = y ∨ (acc.getD e.on 0).testBit y = true) := by
  unfold pre
  generalize o.after.toList = l
  induction l with
  | nil => simp
  | cons e r ih =>
    simp only [List.foldr_cons]
    by_cases hb : Region.binds .any e = true
    · rw [if_pos hb]
      simp only [Nat.testBit_or, Bool.or_eq_true]
      rw [ih]
      have : ((1 <<< e.on).testBit y = true) ↔ e.on = y := by
        rw [Nat.one_shiftLeft, Nat.testBit_two_pow]; simp
      rw [this]
      constructor
      · rintro (⟨e', h1, h2⟩ | h)
        · exact ⟨e', List.mem_cons_of_mem _ h1, h2⟩
        · exact ⟨e, List.mem_cons_self, hb, h⟩
      · rintro ⟨e', h1, h2, h3⟩
        rcases List.mem_cons.1 h1 with rfl | h1
        · exact .inr h3
        · exact .inl ⟨e', h1, h2, h3⟩
    · rw [if_neg hb, ih]
      constructor
      · rintro ⟨e', h1, h2⟩; exact ⟨e', List.mem_cons_of_mem _ h1, h2⟩
      · rintro ⟨e', h1, h2, h3⟩
        rcases List.mem_cons.1 h1 with rfl | h1
        · exact absurd h2 hb
        · exact ⟨e', h1, h2, h3⟩

theorem bit_spec {ops : Array Oper} {b : List Nat} {o : Oper} {x : Nat} (hb : preAll ops.toList [] = b) (ho : ops[x]? = some o) {y : Nat} :
    ((b.getD x 0).testBit y = true → ∃ e ∈ o.after.toList, Region.binds .any e = true ∧ (e.on = y ∨ (b.getD e.on 0).testBit y = true)) ∧
    (∀ e ∈ o.after.toList, Region.binds .any e = true → (b.getD x 0).testBit e.on = true) := by
  have h := preAll_at ops.toList [] x o (by simpa using ho)
  simp only [List.length_nil, Nat.zero_add] at h
  rw [hb] at h
  refine ⟨fun hbit => ?_, fun e he hbe => ?_⟩
  · rw [h, pre_bit] at hbit
    obtain ⟨e, h1, h2, h3⟩ := hbit
    refine ⟨e, h1, h2, h3.imp_right fun h4 => ?_⟩
    simp only [List.getD_eq_getElem?_getD, List.getElem?_take] at h4 ⊢
    split at h4
    · exact h4
    · simp at h4
  · rw [h, pre_bit]
    exact ⟨e, he, hbe, .inl rfl⟩

theorem cIxs_mem {ops : Array Oper} {id : Nat} {l : List IOp} (h : cIxs P ops id l) (o : IOp) (ho : o ∈ l) : (ops[o.ix]?).bind (cOp P ops id o.ix) = some o.bare :=
  List.map_inj_left.1 h o ho

structure DInv (P : Program) (dn : Nat → Nat) (md : Nat → Mode) (ops : Array Oper) (id : Nat) (b : List Nat) (listed : Array Bool) (l : List IOp) : Prop where
  size : listed.size = ops.size
  comp : ∀ o ∈ l, (ops[o.ix]?).bind (cOp P ops id o.ix) = some o.bare
  ok : drawOk' dn md b l = true
  un : ∀ i, i < ops.size → (listed.getD i false = false ↔ ∃ o ∈ l, o.ix = i)
  cl : ∀ x y, listed.getD x false = true → (b.getD x 0).testBit y = true → listed.getD y false = true

theorem drawOk_split {dn : Nat → Nat} {md : Nat → Mode} {b : List Nat} {z : IOp} : ∀ {p q : List IOp}, drawOk' dn md b (p ++ z :: q) = true →
    drawOk' dn md b (p ++ q) = true ∧ (∀ y ∈ p, (b.getD z.ix 0).testBit y.ix = true ∨ swapOk md y (z.avail dn y.ix) = true) ∧ (∀ y ∈ p ++ q, y.ix ≠ z.ix) ∧ (b.getD z.ix 0).testBit z.ix = false ∧ (∀ y ∈ q, (b.getD z.ix 0).testBit y.ix = false) ∧ (p.Pairwise fun x y => x.ix < y.ix)
  | [], q, h => by
    simp only [List.nil_append, drawOk', Bool.and_eq_true, List.all_eq_true] at h ⊢
    refine ⟨h.2, fun y hy => by simp at hy, fun y hy => ?_, by simpa using h.1.1, fun y hy => ?_, .nil⟩
    · have := (h.1.2 y hy).1.1
      intro e; rw [e] at this; simp at this
    · have := (h.1.2 y hy).1.2; simpa using this
  | x :: p, q, h => by
    simp only [List.cons_append, drawOk', Bool.and_eq_true, List.all_eq_true] at h ⊢
    obtain ⟨k1, k2, k3, k4, k5, k6⟩ := drawOk_split h.2
    have hz := h.1.2 z (by simp)
    refine ⟨⟨⟨h.1.1, fun y hy => h.1.2 y (by simp only [List.mem_append, List.mem_cons] at hy ⊢; rcases hy with h | h; exact .inl h; exact .inr (.inr h))⟩, k1⟩, fun y hy => ?_, fun y hy => ?_, k4, k5, List.pairwise_cons.2 ⟨fun y hy => ?_, k6⟩⟩
    · rcases List.mem_cons.1 hy with rfl | hy
      · simpa using hz.2
      · exact k2 y hy
    · rcases List.mem_cons.1 hy with rfl | hy
      · have := hz.1.1; intro e; rw [e] at this; simp at this
      · exact k3 y hy
    · have := (h.1.2 y (by simp [hy])).1.1; simpa using this

theorem ready_mem {ops : Array Oper} {listed : Array Bool} {i : Nat} : i ∈ Region.ready .any ops listed ↔ ∃ o, ops[i]? = some o ∧ listed.getD i true = false ∧ ∀ e ∈ o.after.toList, Region.binds .any e = true → listed.getD e.on false = true := by
  unfold Region.ready
  simp only [List.mem_filter, List.mem_range, Bool.and_eq_true, Bool.not_eq_true']
  constructor
  · rintro ⟨h1, h2, h3⟩
    rw [Array.getElem?_eq_getElem h1] at h3
    simp only [Option.map_some, Option.getD_some, Array.all_eq_true_iff_forall_mem] at h3
    refine ⟨ops[i], Array.getElem?_eq_getElem h1, h2, fun e he hb => ?_⟩
    have := h3 e (by simpa using he)
    rw [hb] at this
    simpa using this
  · rintro ⟨o, h1, h2, h3⟩
    obtain ⟨hlt, rfl⟩ := Array.getElem?_eq_some_iff.1 h1
    refine ⟨hlt, h2, ?_⟩
    rw [h1]
    simp only [Option.map_some, Option.getD_some, Array.all_eq_true_iff_forall_mem]
    intro e he
    by_cases hb : Region.binds .any e = true
    · rw [h3 e (by simpa using he) hb]; simp
    · simp [hb]

theorem draw_any {dn : Nat → Nat} {md : Nat → Mode} {O : Oracle} (hO : OracleFull P O) (hR : RdW w0 M R) {id : Nat} {ops : Array Oper} {b : List Nat} (hb : preAll ops.toList [] = b) (hlt : ∀ x ∈ b, x < 2 ^ ops.size) {Q : Exit → Act → World → Prop} {S' : St} (hQ : ∀ a' w' g', Rel w0 M R S0 g0 S' g' a' w' → Q .normal a' w') :
    ∀ (fuel : Nat) (l : List IOp) (listed : Array Bool) (S : St) (g : G) (a : Act) (w : World), l.length = fuel → DInv P dn md ops id b listed l → Rel w0 M R S0 g0 S g a w → evalOps O md l S = some S' → wpAny P .any ops Q fuel listed a w := by
  have getD_eq : ∀ (listed : Array Bool) (i : Nat), i < ops.size → listed.size = ops.size → listed.getD i true = listed.getD i false := fun listed i hi hs => by
    have : i < listed.size := by omega
    simp [Array.getD, this]
  intro fuel
  induction fuel with
  | zero =>
    intro l listed S g a w hl hI h he
    have : l = [] := List.length_eq_zero_iff.1 hl
    subst this
    simp only [evalOps, Option.some.injEq] at he
    subst he
    refine ⟨?_, hQ a w g h⟩
    apply List.eq_nil_iff_forall_not_mem.2
    intro i hi
    obtain ⟨o, h1, h2, _⟩ := ready_mem.1 hi
    obtain ⟨hlt', _⟩ := Array.getElem?_eq_some_iff.1 h1
    rw [getD_eq _ _ hlt' hI.size] at h2
    obtain ⟨o', ho', _⟩ := (hI.un i hlt').1 h2
    simp at ho'
  | succ fuel ih =>
    intro l listed S g a w hl hI h he
    refine ⟨fun hnil => ?_, fun i hi => ?_⟩
    · exfalso
      cases l with
      | nil => simp at hl
      | cons x r =>
        have hc := hI.comp x List.mem_cons_self
        cases ho : ops[x.ix]? with
        | none => simp [ho] at hc
        | some o =>
          obtain ⟨hlt', _⟩ := Array.getElem?_eq_some_iff.1 ho
          obtain ⟨_, _, k3, k4, k5, _⟩ := drawOk_split (p := []) (q := r) hI.ok
          have : x.ix ∈ Region.ready .any ops listed := by
            refine ready_mem.2 ⟨o, ho, ?_, fun e he' hbe => ?_⟩
            · rw [getD_eq _ _ hlt' hI.size]
              exact (hI.un _ hlt').2 ⟨x, List.mem_cons_self, rfl⟩
            · have hbit := (bit_spec hb ho (y := 0)).2 e he' hbe
              have hon : e.on < ops.size := by
                have h1 := Nat.ge_two_pow_of_testBit hbit
                have h2 : b.getD x.ix 0 < 2 ^ ops.size := by
                  rw [List.getD_eq_getElem?_getD]
                  cases hg : b[x.ix]? with
                  | none => exact Nat.two_pow_pos _
                  | some v => exact hlt v (List.mem_of_getElem? hg)
                exact (Nat.pow_lt_pow_iff_right (by decide : 1 < 2)).1 (Nat.lt_of_le_of_lt h1 h2)
              cases hL : listed.getD e.on false with
              | true => rfl
              | false =>
                obtain ⟨o', h1, h2⟩ := (hI.un _ hon).1 hL
                rcases List.mem_cons.1 h1 with rfl | h1
                · rw [h2] at k4; rw [h2, k4] at hbit; cases hbit
                · have := k5 o' h1; rw [h2, hbit] at this; cases this
          rw [hnil] at this; simp at this
    · obtain ⟨o, ho, h2, h3⟩ := ready_mem.1 hi
      obtain ⟨hlt', _⟩ := Array.getElem?_eq_some_iff.1 ho
      rw [getD_eq _ _ hlt' hI.size] at h2
      obtain ⟨z, hz, rfl⟩ := (hI.un i hlt').1 h2
      obtain ⟨p, q, rfl⟩ := List.append_of_mem hz
      obtain ⟨k1, k2, k3, k4, k5, k6⟩ := drawOk_split hI.ok
      -- what z must follow is done
      have done : ∀ y, (b.getD z.ix 0).testBit y = true → listed.getD y false = true := fun y hy => by
        obtain ⟨e, h4, h5, h6⟩ := (bit_spec hb ho (y := y)).1 hy
        have := h3 e h4 h5
        rcases h6 with h6 | h6
        · rw [← h6]; exact this
        · exact hI.cl e.on y this h6
      have hsw : ∀ y ∈ p, swapOk md y (z.avail dn y.ix) = true := fun y hy => by
        rcases k2 y hy with h | h
        · have h4 := done _ h
          have hc := hI.comp y (by simp [hy])
          have hylt : y.ix < ops.size := by
            cases hoy : ops[y.ix]? with
            | none => simp [hoy] at hc
            | some o => exact (Array.getElem?_eq_some_iff.1 hoy).1
          have := (hI.un y.ix hylt).2 ⟨y, by simp [hy], rfl⟩
          rw [h4] at this; cases this
        · exact h
      obtain ⟨S3, lh, _, _, e1, e2⟩ := move_front p q hsw k6 he
      have hc := hI.comp z hz
      rw [ho] at hc
      refine evalOp_wp (g := g) (S := S) (io := { z with apart := lh }) hO ho hc hR h e1 _ Q fun a' w' g' h' => ?_
      refine ih (p ++ q) _ S3 g' a' w' (by simp at hl ⊢; omega) ⟨by simp [hI.size], fun o ho => hI.comp o (by simp only [List.mem_append, List.mem_cons] at ho ⊢; rcases ho with h | h; exact .inl h; exact .inr (.inr h)), k1, fun i hi => ?_, fun x y hx hy => ?_⟩ h' e2
      · have hsz : z.ix < listed.size := by rw [hI.size]; exact hlt'
        by_cases hiz : z.ix = i
        · subst hiz
          constructor
          · intro hf
            simp [Array.getD, hsz] at hf
          · rintro ⟨o', h4, h5⟩; exact absurd h5 (k3 o' h4)
        · have e3 : (listed.setIfInBounds z.ix true).getD i false = listed.getD i false := by
            simp [Array.getElem?_setIfInBounds_ne hiz]
          rw [e3, hI.un i hi]
          constructor
          · rintro ⟨o', h4, h5⟩
            refine ⟨o', ?_, h5⟩
            simp only [List.mem_append, List.mem_cons] at h4 ⊢
            rcases h4 with h4 | rfl | h4
            · exact .inl h4
            · exact absurd h5 hiz
            · exact .inr h4
          · rintro ⟨o', h4, h5⟩
            refine ⟨o', ?_, h5⟩
            simp only [List.mem_append, List.mem_cons] at h4 ⊢
            rcases h4 with h4 | h4
            · exact .inl h4
            · exact .inr (.inr h4)
      · have mono : ∀ y, listed.getD y false = true → (listed.setIfInBounds z.ix true).getD y false = true := fun y hy => by
          by_cases hyz : z.ix = y
          · subst hyz
            have hsz : z.ix < listed.size := by rw [hI.size]; exact hlt'
            simp [Array.getD, hsz]
          · simp only [Array.getD_eq_getD_getElem?] at hy ⊢
            rw [Array.getElem?_setIfInBounds_ne hyz]; exact hy
        by_cases hxz : z.ix = x
        · subst hxz; exact mono y (done y hy)
        · have e3 : listed.getD x false = true := by
            simp only [Array.getD_eq_getD_getElem?] at hx ⊢
            rw [Array.getElem?_setIfInBounds_ne hxz] at hx; exact hx
          exact mono y (hI.cl x y e3 hy)

theorem draw_wp {md : Nat → Mode} {O : Oracle} (hm : P.follows .mixedOrders = true) (hO : OracleFull P O) (hR : RdW w0 M R) : DrawWp P md O w0 M R S0 g0 := by
  intro id ops l b S g a w S' Q hix hb hd hc h he hQ
  refine wp_region_any hm ?_
  unfold coverOk at hc
  simp only [Bool.and_eq_true, beq_iff_eq, List.all_eq_true, List.any_eq_true, List.mem_range, decide_eq_true_eq] at hc
  obtain ⟨⟨c1, c2⟩, c3⟩ := hc
  refine draw_any hO hR hb c2 hQ ops.size l _ S g a _ c1 ⟨by simp, cIxs_mem hix, hd, fun i hi => ?_, fun x y hx hy => ?_⟩ ⟨⟨h.wrel.os, h.wrel.tape, h.wrel.output, h.wrel.size, h.wrel.keep, h.wrel.rng, h.wrel.fresh, h.wrel.ext, h.wrel.inj, fun lv s b p ys hb hn => h.wrel.cont lv s b p ys hb hn⟩, h.ext, h.trel⟩ he
  · constructor
    · intro _; exact c3 i hi
    · intro _; simp [Array.getElem?_replicate, hi]
  · exfalso
    simp [Array.getElem?_replicate] at hx
    split at hx <;> simp at hx

theorem call_ok {p : Prog} (hp : ProgOk P p) (hm : P.follows .mixedOrders = true) (n : Nat) : OracleFull P (call p n) :=
  call_full hp (fun O w0 M R S0 g0 hO hR => draw_wp hm hO hR) n
end
end Go.Ae
namespace Go.Ae
open Go.RowKit Go.ChangeShapes
set_option linter.unusedVariables false
set_option linter.unusedSimpArgs false

/-- A cell's kind. -/
inductive CS where
  | int (k : IntKind)
  | bool
  | str
  | sl (bytes : Nat) (es : List CS)
  deriving Inhabited
def CS.scal : CS → Bool
  | .sl .. => false
  | _ => true

mutual
inductive Fits : CS → AV → Prop
  | int {k : IntKind} {n : Int} : (Lit.int k n).wf = true → Fits (.int k) (.int k n)
  | bool (b : Bool) : Fits .bool (.bool b)
  | str {s : ByteArray} : s.size ≤ reachBytes → Fits .str (.str s)
  | sl {bytes : Nat} {es : List CS} {xs : List (List AV)} : xs.length * bytes ≤ reachBytes → (∀ r ∈ xs, FitsAll es r) → Fits (.sl bytes es) (.rd (es.all CS.scal) xs)
inductive FitsAll : List CS → List AV → Prop
  | nil : FitsAll [] []
  | cons {c : CS} {cs : List CS} {v : AV} {vs : List AV} : Fits c v → FitsAll cs vs → FitsAll (c :: cs) (v :: vs)
end

def fieldsOf (P : Program) (rec : TypeId → Option (List CS)) : Nat → List Field → Option (List CS)
  | _, [] => some []
  | off, f :: r => if f.offset = off then match rec f.type with
      | some cs => if cs.length = P.cellsOf f.type then match fieldsOf P rec (off + cs.length) r with
          | some l => some (cs ++ l)
          | none => none
        else none
      | none => none
    else none
def shapeOf (P : Program) : Nat → TypeId → Option (List CS)
  | 0, _ => none
  | d + 1, t => match P.underlying t with
    | some .bool => some [.bool]
    | some (.int k) => some [.int k]
    | some .string => some [.str]
    | some (.slice e) => match shapeOf P d e with
      | some es => if es.length = P.cellsOf e then some [.sl (P.bytesOf e) es] else none
      | none => none
    | some (.struct fs) => match fieldsOf P (shapeOf P d) 0 fs.toList with
      | some l => if l.length = P.cellsOf t then some l else none
      | none => none
    | _ => none

theorem FitsAll.len : ∀ {cs : List CS} {vs : List AV}, FitsAll cs vs → vs.length = cs.length
  | [], _, .nil => rfl
  | _ :: _, _, .cons _ h => by simp [h.len]
theorem FitsAll.append : ∀ {cs ds : List CS} {vs us : List AV}, FitsAll cs vs → FitsAll ds us → FitsAll (cs ++ ds) (vs ++ us)
  | _, _, _, _, .nil, h => h
  | _, _, _, _, .cons h k, h' => .cons h (k.append h')
theorem Fits.scal {c : CS} {v : AV} (h : Fits c v) (hc : c.scal = true) : v.scal = true := by
  cases h <;> first | rfl | simp [CS.scal] at hc
theorem FitsAll.scal : ∀ {cs : List CS} {vs : List AV}, FitsAll cs vs → cs.all CS.scal = true → ∀ v ∈ vs, v.scal = true
  | _, _, .nil, _, v, hv => by simp at hv
  | _, _, .cons h k, hc, v, hv => by
    simp only [List.all_cons, Bool.and_eq_true] at hc
    rcases List.mem_cons.1 hv with rfl | hv
    · exact h.scal hc.1
    · exact k.scal hc.2 v hv
/-- Cells of scalars. -/
theorem Rd.inv_scal {cell : Addr → Option Value} {v : AV} {cv : Value} (h : v.scal = true) (hr : Rd cell v cv) : True := trivial

section
variable {H : Type} {enc : TypeId × Value → H} {P : Program} {W : World} {spare : Nat → Bool} {held : Bool} {cell : Addr → Option Value}

theorem weightsAll_mem {e : TypeId} {y : DataW H} {m : Nat} : ∀ {l : List (DataW H)}, y ∈ l → m ∈ y.weights P e → m ∈ DataW.weightsAll P e l
  | [], h, _ => by simp at h
  | z :: l, h, hm => by
    simp only [DataW.weightsAll, List.mem_append]
    rcases List.mem_cons.1 h with rfl | h
    · exact .inl hm
    · exact .inr (weightsAll_mem h hm)

theorem open_shape (hcell : ∀ a v, W.cell? a = some v → cell a = some v) : ∀ (d : Nat) (t : TypeId) (fuel : Nat) (vals : List Value) (x : DataW H × List MemPlace) (cs : List CS),
    shapeOf P d t = some cs → DataW.trod enc P W 0 spare held fuel t vals = some x → (∀ n ∈ x.1.weights P t, n ≤ reachBytes) →
    ∃ avs, FitsAll cs avs ∧ avs.length = vals.length ∧ ∀ i v, avs[i]? = some v → Rd cell v (vals.getD i undef) := by
  intro d
  induction d with
  | zero => intro t fuel vals x cs hs; simp [shapeOf] at hs
  | succ d ih =>
    intro t fuel vals x cs hs hx hw
    unfold shapeOf at hs
    split at hs
    · rename_i ht
      cases hs
      obtain ⟨b, rfl, _⟩ := DataW.trod_bool ht hx
      refine ⟨[.bool b], .cons (.bool b) .nil, rfl, fun i v hi => ?_⟩
      cases i with
      | zero => simp at hi; subst hi; exact .bool b
      | succ i => simp at hi
    · rename_i k ht
      cases hs
      obtain ⟨n, rfl, _, hwf⟩ := DataW.trod_int ht hx
      refine ⟨[.int k n], .cons (.int hwf) .nil, rfl, fun i v hi => ?_⟩
      cases i with
      | zero => simp at hi; subst hi; exact .int k n
      | succ i => simp at hi
    · rename_i ht
      cases hs
      obtain ⟨s, rfl, rfl, hsz⟩ := DataW.trod_string ht hx
      have : s.size ≤ reachBytes := by
        have := hw s.data.toList.length (by simp [DataW.weights])
        simpa using this
      refine ⟨[.str s], .cons (.str this) .nil, rfl, fun i v hi => ?_⟩
      cases i with
      | zero => simp at hi; subst hi; exact .str s
      | succ i => simp at hi
    · rename_i e ht
      split at hs
      · rename_i es hes
        split at hs
        · rename_i hlen
          cases hs
          rcases DataW.trod_slice ht hx with ⟨rfl, rfl⟩ | ⟨a, len, cap, elems, rest, n, rfl, rfl, rfl, hb, hl, hm, hel, heach, _, _⟩
          · refine ⟨[.rd (es.all CS.scal) []], .cons (.sl (by simp) (by simp)) .nil, rfl, fun i v hi => ?_⟩
            cases i with
            | zero =>
              simp at hi; subst hi
              exact .rd _ [] none 0 es.length (fun _ _ => undef) (by simp) (by simp) (by simp) (fun i c v h => by simp [cellAt] at h) (fun i c v h => by simp [cellAt] at h)
            | succ i => simp at hi
          · -- each element
            have each : ∀ i, i < len → ∃ (r : List AV) (vs : List Value), FitsAll es r ∧ vs.length = es.length ∧ (∀ j, j < es.length → W.cell? (a.add (i * es.length + j)) = vs[j]?) ∧ ∀ j v, r[j]? = some v → Rd cell v (vs.getD j undef) := fun i hi => by
              have h1 := heach i hi
              have hi' : i < elems.length := by omega
              rw [List.getElem?_eq_getElem hi', Option.bind_eq_some_iff] at h1
              obtain ⟨vs, h2, h3⟩ := h1
              obtain ⟨_, h4, h5⟩ := World.cells?_some h2
              obtain ⟨r, k1, k2, k3⟩ := ih e n vs elems[i] es hes h3 (fun m hm' => hw m (by
                simp only [DataW.weights, ht, List.mem_cons, List.mem_append]
                refine .inr (.inl ?_)
                exact weightsAll_mem (List.mem_map.2 ⟨_, List.getElem_mem hi', rfl⟩) hm'))
              refine ⟨r, vs, k1, by omega, fun j hj => ?_, k3⟩
              have := h5 j (by omega)
              rw [← this, hlen]
              have hadd : (a.add (i * P.cellsOf e)).add j = a.add (i * P.cellsOf e + j) := by
                unfold Addr.add
                by_cases h1 : i * P.cellsOf e = 0 <;> by_cases h2 : j = 0 <;> simp [h1, h2, Nat.add_assoc]
              rw [hadd]
            classical
            have each' : ∀ i : Nat, ∃ p : List AV × List Value, i < len → FitsAll es p.1 ∧ p.2.length = es.length ∧ (∀ j, j < es.length → W.cell? (a.add (i * es.length + j)) = p.2[j]?) ∧ ∀ j v, p.1[j]? = some v → Rd cell v (p.2.getD j undef) := fun i => by
              by_cases hi : i < len
              · obtain ⟨r, vs, h⟩ := each i hi; exact ⟨(r, vs), fun _ => h⟩
              · exact ⟨([], []), fun h => absurd h hi⟩
            obtain ⟨f, hf⟩ := Classical.axiomOfChoice each'
            have hxs : ∀ i r, ((List.range len).map fun i => (f i).1)[i]? = some r → i < len ∧ r = (f i).1 := fun i r h => by
              simp only [List.getElem?_map, Option.map_eq_some_iff] at h
              obtain ⟨j, h1, h2⟩ := h
              obtain ⟨h3, h4⟩ := List.getElem?_eq_some_iff.1 h1
              simp at h3 h4
              subst h4
              exact ⟨h3, h2.symm⟩
            have hmem : ∀ r ∈ (List.range len).map fun i => (f i).1, FitsAll es r := fun r hr => by
              obtain ⟨i, h1, rfl⟩ := List.mem_map.1 hr
              exact (hf i (by simpa using h1)).1
            refine ⟨[.rd (es.all CS.scal) ((List.range len).map fun i => (f i).1)], .cons (.sl ?_ hmem) .nil, rfl, fun i v hi => ?_⟩
            · have := hw ((elems.length + rest.length) * P.bytesOf e) (by simp [DataW.weights, ht])
              have h2 : len * P.bytesOf e ≤ (elems.length + rest.length) * P.bytesOf e := Nat.mul_le_mul_right _ (by omega)
              simp only [List.length_map, List.length_range]
              omega
            · cases i with
              | zero =>
                simp at hi; subst hi
                have hR := Rd.rd (cell := cell) (es.all CS.scal) ((List.range len).map fun i => (f i).1) (some a) cap es.length (fun i c => (f i).2.getD c undef) (by simpa using hl)
                  (fun r hr => (hmem r hr).len) (fun hfl r hr v hv => (hmem r hr).scal hfl v hv)
                  (fun i c v h => by
                    unfold cellAt at h
                    split at h
                    · rename_i r hr
                      obtain ⟨h1, rfl⟩ := hxs i r hr
                      obtain ⟨k1, k2, k3, k4⟩ := hf i h1
                      have hc : c < es.length := by rw [← k1.len]; exact (List.getElem?_eq_some_iff.1 h).1
                      refine ⟨a, rfl, hcell _ _ ?_⟩
                      rw [k3 c hc]
                      simp [List.getElem?_eq_getElem (show c < (f i).2.length by omega)]
                    · cases h)
                  (fun i c v h => by
                    unfold cellAt at h
                    split at h
                    · rename_i r hr
                      obtain ⟨h1, rfl⟩ := hxs i r hr
                      exact (hf i h1).2.2.2 c v h
                    · cases h)
                simpa using hR
              | succ i => simp at hi
        · cases hs
      · cases hs
    · rename_i fs ht
      split at hs
      · rename_i l hl
        split at hs
        · rename_i hlen
          cases hs
          obtain ⟨xs, n, rfl, rfl, hvl, hxl, heach⟩ := DataW.trod_struct ht hx
          have hw' : ∀ n ∈ DataW.weightsEach P (fs.toList.map (·.type)) (xs.map (·.1)), n ≤ reachBytes := fun m hm => hw m (by simpa [DataW.weights, ht] using hm)
          have main : ∀ (fl : List Field) (off : Nat) (ys : List (DataW H × List MemPlace)) (l : List CS), fieldsOf P (shapeOf P d) off fl = some l → ys.length = fl.length →
              (∀ (i : Nat) (f : Field), fl[i]? = some f → DataW.trod enc P W 0 spare held n f.type ((vals.drop f.offset).take (P.cellsOf f.type)) = ys[i]?) →
              (∀ n ∈ DataW.weightsEach P (fl.map (·.type)) (ys.map (·.1)), n ≤ reachBytes) →
              ∃ avs, FitsAll l avs ∧ ∀ i v, avs[i]? = some v → Rd cell v (vals.getD (off + i) undef) := by
            intro fl
            induction fl with
            | nil =>
              intro off ys l hfo _ _ _
              simp only [fieldsOf, Option.some.injEq] at hfo
              subst hfo
              exact ⟨[], .nil, fun i v hi => by simp at hi⟩
            | cons f r ihf =>
              intro off ys l hfo hyl hea hww
              simp only [fieldsOf] at hfo
              split at hfo
              · rename_i hoff
                split at hfo
                · rename_i cs1 hcs1
                  split at hfo
                  · rename_i hcl
                    split at hfo
                    · rename_i l2 hl2
                      cases hfo
                      cases ys with
                      | nil => simp at hyl
                      | cons y ys =>
                        have h0 := hea 0 f (by simp)
                        simp only [List.getElem?_cons_zero] at h0
                        simp only [List.map_cons, DataW.weightsEach, List.mem_append] at hww
                        obtain ⟨avs1, k1, k2, k3⟩ := ih f.type n _ y cs1 hcs1 h0 (fun m hm => hww m (.inl hm))
                        obtain ⟨avs2, j1, j3⟩ := ihf (off + cs1.length) ys l2 hl2 (by simpa using hyl) (fun i f' hi => by simpa using hea (i + 1) f' (by simpa using hi)) (fun m hm => hww m (.inr hm))
                        refine ⟨avs1 ++ avs2, k1.append j1, fun i v hi => ?_⟩
                        have hl1 := k1.len
                        by_cases hlt : i < avs1.length
                        · rw [List.getElem?_append_left hlt] at hi
                          have := k3 i v hi
                          have hget : ((vals.drop f.offset).take (P.cellsOf f.type)).getD i undef = vals.getD (off + i) undef := by
                            simp only [List.getD_eq_getElem?_getD]
                            rw [List.getElem?_take_of_lt (by omega), List.getElem?_drop, hoff]
                          rwa [hget] at this
                        · rw [List.getElem?_append_right (by omega)] at hi
                          have := j3 _ v hi
                          rwa [hl1, show off + cs1.length + (i - cs1.length) = off + i by omega] at this
                    · cases hfo
                  · cases hfo
                · cases hfo
              · cases hfo
          obtain ⟨avs, k1, k2⟩ := main fs.toList 0 xs _ hl (by simpa using hxl) (fun i f hi => heach i f (by simpa using hi)) hw'
          refine ⟨avs, k1, by rw [k1.len, hlen, hvl], fun i v hi => by simpa using k2 i v hi⟩
        · cases hs
      · cases hs
    · cases hs
end
end Go.Ae
namespace Go.Ae
open Go.RowKit Go.ChangeShapes Go.WideShapes
set_option linter.unusedVariables false
set_option linter.unusedSimpArgs false

/-- What an argument is: a struct's cells, or one. -/
def PFits : Bool × List CS → AV → Prop
  | (true, cs), v => ∃ avs, v = .agg avs ∧ FitsAll cs avs
  | (false, cs), v => FitsAll cs [v]
def PFitsAll : List (Bool × List CS) → List AV → Prop
  | [], [] => True
  | p :: ps, v :: vs => PFits p v ∧ PFitsAll ps vs
  | _, _ => False
def paramsOf (P : Program) : List TypeId → Option (List (Bool × List CS))
  | [] => some []
  | t :: ts => match aggT P t, shapeOf P 24 t, paramsOf P ts with
    | some ag, some cs, some r => if P.readableRec t && decide (t < P.types.size) then some ((ag, cs) :: r) else none
    | _, _, _ => none

section
variable {H : Type} {enc : TypeId × Value → H} {P : Program} {W : World} {cell : Addr → Option Value}

theorem arg_open (hcell : ∀ a v, W.cell? a = some v → cell a = some v) {S : St} {g : G} {t : TypeId} {v : Value} {d : DataW H} {ps : List MemPlace} {cs : List CS} {ag : Bool} (hs : shapeOf P 24 t = some cs) (ha : aggT P t = some ag)
    (hd : DataW.Trod enc P W 0 (fun _ => true) true t v d ps) (hok : Value.okWide P W .any 0 t v) (hw : ∀ n ∈ d.weights P t, n ≤ reachBytes) : ∃ a, PFits (ag, cs) a ∧ VRel S g cell a v := by
  obtain ⟨fuel, hf⟩ := hd
  obtain ⟨avs, h1, h2, h3⟩ := open_shape hcell 24 t fuel _ (d, ps) cs hs hf hw
  have one : (∀ arr, v ≠ .agg arr) → v.cells.toList = [v] := fun h => by cases v <;> first | rfl | exact absurd rfl (h _)
  have single : ag = false → (∀ arr, v ≠ .agg arr) → ∃ a, PFits (ag, cs) a ∧ VRel S g cell a v := fun hag hne => by
    rw [one hne] at h2 h3
    cases avs with
    | nil => simp at h2
    | cons a r =>
      cases r with
      | nil =>
        subst hag
        exact ⟨a, h1, (h3 0 a rfl).vrel⟩
      | cons b r => simp at h2
  unfold shapeOf at hs
  unfold aggT at ha
  split at hs
  · rename_i ht
    rw [ht] at ha
    obtain ⟨b, rfl⟩ := okWide_bool ht hok
    exact single (by cases ha; rfl) (fun _ h => by cases h)
  · rename_i k ht
    rw [ht] at ha
    obtain ⟨b, rfl⟩ := okWide_int ht hok
    exact single (by cases ha; rfl) (fun _ h => by cases h)
  · rename_i ht
    rw [ht] at ha
    obtain ⟨b, rfl⟩ := okWide_string ht hok
    exact single (by cases ha; rfl) (fun _ h => by cases h)
  · rename_i e ht
    rw [ht] at ha
    obtain ⟨_, _, _, rfl⟩ := okWide_slice ht hok
    exact single (by cases ha; rfl) (fun _ h => by cases h)
  · rename_i fs ht
    rw [ht] at ha
    obtain ⟨arr, rfl, _⟩ := okWide_struct ht hok
    cases ha
    refine ⟨.agg avs, ⟨avs, rfl, h1⟩, .agg avs arr (by simpa [Value.cells] using h2) fun i u hi => ?_⟩
    have := h3 i u hi
    have e : (Value.cells (.agg arr)).toList.getD i undef = arr.getD i Go.undef := by simp [Value.cells, List.getD_eq_getElem?_getD]
    rw [e] at this
    exact this.vrel
  · cases hs

theorem args_open (hcell : ∀ a v, W.cell? a = some v → cell a = some v) {S : St} {g : G} : ∀ {ts : List TypeId} {vs : List Value} {ds : List (DataW H)} {ps : List MemPlace} {l : List (Bool × List CS)}, paramsOf P ts = some l →
    DataW.TrodAll enc P W 0 (fun _ => true) true ts vs ds ps → (∀ (j : Nat) t v, ts[j]? = some t → vs[j]? = some v → Value.okWide P W .any 0 t v) → (∀ n ∈ DataW.weightsEach P ts ds, n ≤ reachBytes) →
    ∃ avs, PFitsAll l avs ∧ avs.length = vs.length ∧ ∀ i a, avs[i]? = some a → VRel S g cell a (vs.getD i undef)
  | [], vs, ds, ps, l, hl, hA, hok, hw => by
    obtain ⟨rfl, rfl, rfl⟩ := trodAll_nil hA
    cases hl
    exact ⟨[], trivial, rfl, fun i a hi => by simp at hi⟩
  | t :: ts, vs, ds, ps, l, hl, hA, hok, hw => by
    obtain ⟨v, vs', d, ds', p, q, rfl, rfl, rfl, hd, hr⟩ := trodAll_cons hA
    simp only [paramsOf] at hl
    split at hl
    · rename_i ag cs r h1 h2 h3
      split at hl
      · rename_i hc
        cases hl
        simp only [DataW.weightsEach, List.mem_append] at hw
        obtain ⟨a, k1, k2⟩ := arg_open (S := S) (g := g) hcell h2 h1 hd (hok 0 t v rfl rfl) (fun n hn => hw n (.inl hn))
        obtain ⟨avs, j1, j2, j3⟩ := args_open (S := S) (g := g) hcell h3 hr (fun j t' v' h h' => hok (j + 1) t' v' (by simpa using h) (by simpa using h')) (fun n hn => hw n (.inr hn))
        refine ⟨a :: avs, ⟨k1, j1⟩, by simp [j2], fun i u hi => ?_⟩
        cases i with
        | zero => simp at hi; subst hi; simpa using k2
        | succ i => simpa using j3 i u (by simpa using hi)
      · cases hl
    · cases hl

theorem args_back (hl : laidOutB P = true) {W' : World} (hb : Below W.heap.size W W') : ∀ {ts : List TypeId} {vs : List Value} {ds : List (DataW H)} {ps : List MemPlace} {l : List (Bool × List CS)}, paramsOf P ts = some l →
    DataW.TrodAll enc P W 0 (fun _ => true) true ts vs ds ps → DataW.TrodAll enc P W' 0 (fun b => decide (b < W.heap.size)) true ts vs ds ps
  | [], vs, ds, ps, l, h, hA => by
    obtain ⟨rfl, rfl, rfl⟩ := trodAll_nil hA
    exact trodAll_mk0
  | t :: ts, vs, ds, ps, l, h, hA => by
    obtain ⟨v, vs', d, ds', p, q, rfl, rfl, rfl, hd, hr⟩ := trodAll_cons hA
    simp only [paramsOf] at h
    split at h
    · rename_i ag cs r h1 h2 h3
      split at h
      · rename_i hc
        simp only [Bool.and_eq_true, decide_eq_true_eq] at hc
        have lt : ∀ x ∈ p, x.block < W.heap.size := by obtain ⟨m, hm⟩ := hd; exact DataW.trod_lt m _ _ _ hm
        exact trodAll_cons_mk (Below.trod hl hc.1 hc.2 hd hb lt) (args_back hl hb h3 hr)
      · cases h
    · cases h
end

theorem law_calls {P : Program} {p : Prog} (hp : ProgOk P p) (hm : P.follows .mixedOrders = true) {f n : Nat} {avs : List AV} {cargs : Array Value} {W : World} {bs : List Blk} {e : List Heap}
    (hc : call p n f avs [] = some ⟨.bool true, bs, e⟩) (hlen : avs.length = cargs.size)
    (hv : ∀ i a, avs[i]? = some a → VRel ⟨avs, [], []⟩ ⟨fun _ _ _ => none, fun _ => 0⟩ (stab W (· < W.heap.size)) a (cargs.getD i undef)) :
    Calls P f cargs W fun e W' => e = .returned (.bool true) ∧ Below W.heap.size W W' := by
  have hW0 : WRel W (fun _ _ _ => none) (· < W.heap.size) ⟨avs, [], []⟩ ⟨fun _ _ _ => none, fun _ => 0⟩ W := {
    os := rfl, tape := rfl, output := rfl, size := Nat.le_refl _
    keep := fun _ _ _ => rfl
    rng := fun _ _ _ _ h => nomatch h
    fresh := fun _ _ _ h => nomatch h
    ext := fun _ _ _ _ h => nomatch h
    inj := fun _ _ _ _ _ _ _ h => nomatch h
    cont := fun lv s b p ys hb _ => by
      exfalso
      unfold St.blk at hb
      cases lv <;> simp [St.heap, Heap.get] at hb }
  have h := (call_ok hp hm n).ok f avs [] _ hc W (· < W.heap.size) ⟨fun _ _ _ => none, fun _ => 0⟩ cargs ⟨fun B hB => ⟨hB, fun _ _ _ h => nomatch h⟩⟩ (fun _ _ => rfl) hW0 ⟨hlen, hv⟩
  refine h.mono ?_
  rintro e' w' ⟨cv, g', rfl, hW, _, hV⟩
  rw [hV.bool_inv]
  exact ⟨rfl, ⟨hW.os, hW.tape, hW.output, hW.size, fun k hk => hW.keep k hk (fun _ _ _ h => nomatch h)⟩⟩

theorem cell_stab {W : World} (a : Addr) (v : Value) (h : W.cell? a = some v) : stab W (· < W.heap.size) a = some v := by
  unfold stab
  rw [if_pos]
  · exact h
  · unfold World.cell? at h
    cases hb : W.heap[a.block]? with
    | none => simp [hb] at h
    | some o => exact (Array.getElem?_eq_some_iff.1 hb).1

/-- A law that answers true: its contract. -/
theorem law_contract {H : Type} {enc : TypeId × Value → H} {P : Program} {p : Prog} (hp : ProgOk P p) (hm : P.follows .mixedOrders = true) {f : Nat} {l : List (Bool × List CS)} {ts : List TypeId} (hl : paramsOf P ts = some l)
    (law : ∀ avs, PFitsAll l avs → ∃ n bs e, call p n f avs [] = some ⟨.bool true, bs, e⟩)
    {W : World} {args : Array Value} {ds : List (DataW H)} {ps : List MemPlace} (hA : DataW.TrodAll enc P W 0 (fun _ => true) true ts args.toList ds ps)
    (hok : ∀ (j : Nat) t v, ts[j]? = some t → args[j]? = some v → Value.okWide P W .any 0 t v) (hw : (DataW.weightsEach P ts ds).all (· ≤ reachBytes) = true) :
    Calls P f args W fun e W' => e = .returned (.bool true) ∧ Below W.heap.size W W' := by
  obtain ⟨avs, k1, k2, k3⟩ := args_open (S := ⟨[], [], []⟩) (g := ⟨fun _ _ _ => none, fun _ => 0⟩) cell_stab hl hA (fun j t v h h' => hok j t v h (by simpa using h')) (fun n hn => by simpa using List.all_eq_true.1 hw n hn)
  obtain ⟨n, bs, e, hc⟩ := law avs k1
  obtain ⟨avs', j1, j2, j3⟩ := args_open (S := ⟨avs, [], []⟩) (g := ⟨fun _ _ _ => none, fun _ => 0⟩) cell_stab hl hA (fun j t v h h' => hok j t v h (by simpa using h')) (fun n hn => by simpa using List.all_eq_true.1 hw n hn)
  refine law_calls hp hm hc (by simpa using k2) fun i a hi => ?_
  have hs : ∀ lv, (⟨avs, [], []⟩ : St).heap lv = (⟨[], [], []⟩ : St).heap lv := fun lv => by cases lv <;> rfl
  have := (k3 i a hi).mono (Ext.sameHeap (g := ⟨fun _ _ _ => none, fun _ => 0⟩) hs)
  have e : args.toList.getD i undef = args.getD i undef := by simp [List.getD_eq_getElem?_getD]
  rw [e] at this
  exact this
end Go.Ae
