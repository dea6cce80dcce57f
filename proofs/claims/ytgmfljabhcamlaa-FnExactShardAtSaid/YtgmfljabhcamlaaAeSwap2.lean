/- Two operations of a region change places. -/
import Derived.Test.YtgmfljabhcamlaaAeSwap
namespace Go.Ae
open Go.RowKit
set_option linter.unusedVariables false
set_option linter.unusedSimpArgs false
section
variable {S S' : St}

def St.wt (S : St) (ts : List AV) : St := { S with tmps := ts }
theorem wt_tmps (ts : List AV) : (S.wt ts).tmps = ts := rfl
theorem wt_wt (ts us : List AV) : (S.wt ts).wt us = S.wt us := rfl
theorem wt_self : S.wt S.tmps = S := rfl
theorem wt_at (ts : List AV) (lv s v : Nat) (p : Path) : (S.wt ts).at lv s v p = S.at lv s v p := rfl
theorem wt_blk (ts : List AV) (lv s : Nat) : (S.wt ts).blk lv s = S.blk lv s := rfl
theorem wt_put (ts : List AV) (lv s : Nat) (b : Option Blk) : (S.wt ts).put lv s b = (S.put lv s b).wt ts := by cases lv <;> rfl
def dset (ts : List AV) (d : Option Nat) (v : AV) : List AV := match d with
  | some d => ts.set d v
  | none => ts
theorem setT_wt (d : Option Nat) (v : AV) : S.setT d v = S.wt (dset S.tmps d v) := by cases d <;> rfl
theorem wt_setT (ts : List AV) (d : Option Nat) (v : AV) : (S.wt ts).setT d v = S.wt (dset ts d v) := by cases d <;> rfl
theorem dset_comm {ts : List AV} {d e : Option Nat} {v u : AV} (h : ∀ x, d = some x → e ≠ some x) : dset (dset ts d v) e u = dset (dset ts e u) d v := by
  cases d with
  | none => rfl
  | some x => cases e with
    | none => rfl
    | some y => exact List.set_comm _ _ fun e => h x rfl (by rw [e])
theorem new_wt {ts : List AV} {s : Nat} {b : Blk} {S1 : St} (h : S.new s b = some S1) : (S.wt ts).new s b = some (S1.wt ts) := by
  unfold St.new at h ⊢
  show (match S.loc.get s with | none => _ | some _ => none) = _
  cases hg : S.loc.get s with
  | none => rw [hg] at h; cases h; rfl
  | some o => rw [hg] at h; cases h
theorem addNews_wt {ts : List AV} : ∀ {n : List (Nat × Blk)} {S S1 : St}, addNews S n = some S1 → addNews (S.wt ts) n = some (S1.wt ts)
  | [], S, S1, h => by cases h; rfl
  | (s, b) :: r, S, S1, h => by
    simp only [addNews] at h ⊢
    cases hn : S.new s b with
    | none => simp [hn] at h
    | some S2 => rw [hn] at h; rw [new_wt hn]; exact addNews_wt h

theorem agree_set {ts : List AV} {d : Option Nat} {v : AV} {l : List Nat} (h : ∀ x, d = some x → x ∉ l) : Agree (S.wt (dset ts d v)) (S'.wt ts) l := fun n hn => by
  cases d with
  | none => rfl
  | some x =>
    have : x ≠ n := fun e => h x rfl (e ▸ hn)
    show ts.getD n .undef = (ts.set x v).getD n .undef
    simp [List.getElem?_set, this]
theorem agree_set' {ts : List AV} {d : Option Nat} {v : AV} {l : List Nat} (h : ∀ x, d = some x → x ∉ l) : Agree (S.wt ts) (S'.wt (dset ts d v)) l := fun n hn => (agree_set (S := S') (S' := S) h n hn).symm

theorem source_wt {ts : List AV} {v : AV} : source (S.wt ts) v = source S v := by cases v <;> rfl
theorem callVal_wt {O : Oracle} {ts : List AV} {base f : Nat} {args : List AV} {fl : Bool} {r} (h : callVal O S base f args fl = some r) : callVal O (S.wt ts) base f args fl = some r := by
  unfold callVal at h ⊢
  cases h1 : mapO (reify S 8) args with
  | none => simp [h1] at h
  | some as => rw [mapO_mono (reify_mono (S := S) (S' := S.wt ts) (fun lv s b hb => hb) 8) h1]; rw [h1] at h; exact h
theorem callRef_wt {O : Oracle} {ts : List AV} {base f : Nat} {args : List AV} {fl : Bool} {v : AV} {S1 : St} (h : callRef O S base f args fl = some (v, S1)) : callRef O (S.wt ts) base f args fl = some (v, S1.wt ts) := by
  unfold callRef at h ⊢
  change (match O f (args.map (AV.mapR shiftR)) (S.loc :: S.ext) with | some r => _ | none => none) = _
  cases h1 : O f (args.map (AV.mapR shiftR)) (S.loc :: S.ext) with
  | none => simp [h1] at h
  | some r =>
    simp only [h1] at h ⊢
    split at h
    · cases h
    · rename_i hb
      rw [if_neg hb]
      cases h2 : r.ext with
      | nil => simp [h2] at h
      | cons l e =>
        simp only [h2] at h ⊢
        cases h3 : addNews { tmps := S.tmps, loc := l, ext := e } (numbered base (r.blks.map (Blk.mapR (injR base)))) with
        | none => simp [h3] at h
        | some S2 =>
          rw [h3] at h
          have h4 : addNews { tmps := ts, loc := l, ext := e } (numbered base (r.blks.map (Blk.mapR (injR base)))) = some (S2.wt ts) := addNews_wt h3
          show (match addNews { tmps := ts, loc := l, ext := e } (numbered base (r.blks.map (Blk.mapR (injR base)))) with | some st' => _ | none => none) = _
          rw [h4]
          simp only [Option.some.injEq, Prod.mk.injEq] at h ⊢
          obtain ⟨rfl, rfl⟩ := h
          exact ⟨rfl, rfl⟩

theorem evalW_wt {O : Oracle} {md : Nat → Mode} {ts : List AV} {base : Nat} {op : I} {v : AV} {S1 : St} (ht : Agree S (S.wt ts) op.reads) (h : evalW O md S base op = some (v, S1)) : evalW O md (S.wt ts) base op = some (v, S1.wt ts) := by
  have sub : ∀ {m : List Nat}, (∀ n ∈ m, n ∈ op.reads) → Agree S (S.wt ts) m := fun h => ht.mono h
  cases op with
  | store n p x =>
    simp only [evalW, agree_X (x := p) (sub fun n hn => by simp [I.reads, hn]), agree_X (x := x) (sub fun n hn => by simp [I.reads, hn])] at h ⊢
    cases hp : evalX S p with
    | ptr lv s ver pa i c =>
      cases hc : (evalX S x).cells with
      | none => simp [hp, hc] at h
      | some ws =>
        simp only [hp, hc, wt_at, wt_put] at h ⊢
        split at h
        · rename_i b ys hat
          split at h
          · rename_i row hrow
            split at h
            · rename_i hcond
              rw [if_pos hcond]
              split at h
              · rename_i hb
                rw [if_pos hb]
                split at h
                · rename_i hl
                  rw [if_pos hl]
                  split at h
                  · rename_i hs
                    rw [if_pos hs]
                    simp only [Option.some.injEq, Prod.mk.injEq] at h ⊢
                    obtain ⟨rfl, rfl⟩ := h; exact ⟨rfl, rfl⟩
                  · cases h
                · rename_i hl
                  rw [if_neg hl]
                  split at h
                  · rename_i cs news hbc
                    split at h
                    · rename_i st' hn
                      rw [addNews_wt hn]
                      simp only [Option.some.injEq, Prod.mk.injEq, wt_put] at h ⊢
                      obtain ⟨rfl, rfl⟩ := h; exact ⟨rfl, rfl⟩
                    · cases h
                  · cases h
              · rename_i hb
                rw [if_neg hb]
                split at h
                · split at h
                  · simp only [Option.some.injEq, Prod.mk.injEq] at h ⊢
                    obtain ⟨rfl, rfl⟩ := h; exact ⟨rfl, rfl⟩
                  · cases h
                · cases h
            · cases h
          · cases h
        · cases h
    | _ => simp [hp] at h
  | call f args fl =>
    simp only [evalW, agree_Xs (xs := args) ht] at h ⊢
    cases hm : md f with
    | ref => rw [hm] at h; exact callRef_wt h
    | _ => simp [hm] at h
  | callv x args fl =>
    simp only [evalW, agree_X (x := x) (sub fun n hn => by simp [I.reads, hn]), agree_Xs (xs := args) (sub fun n hn => by simp only [I.reads, List.mem_append]; exact .inr hn)] at h ⊢
    cases hx : evalX S x with
    | fn f caps =>
      simp only [hx] at h ⊢
      cases hm : md f with
      | ref => rw [hm] at h; exact callRef_wt h
      | val =>
        simp only [hm] at h ⊢
        cases h1 : callVal O S base f (evalXs S args ++ caps) fl with
        | none => simp [h1] at h
        | some q =>
          obtain ⟨u, n⟩ := q
          rw [callVal_wt h1]
          simp only [h1] at h ⊢
          cases h2 : addNews S n with
          | none => simp [h2] at h
          | some S2 =>
            rw [addNews_wt h2]
            rw [h2] at h
            simp only [Option.some.injEq, Prod.mk.injEq] at h ⊢
            obtain ⟨rfl, rfl⟩ := h; exact ⟨rfl, rfl⟩
      | view =>
        simp only [hm] at h ⊢
        change (match callView O S f (evalXs S args ++ caps) with | some v => some (v, S.wt ts) | none => none) = _
        cases h1 : callView O S f (evalXs S args ++ caps) with
        | none => simp [h1] at h
        | some u =>
          simp only [h1, Option.some.injEq, Prod.mk.injEq] at h ⊢
          obtain ⟨rfl, rfl⟩ := h; exact ⟨rfl, rfl⟩
    | _ => simp [hx] at h
  | app fl sz bytes s x =>
    simp only [evalW, agree_X (x := s) (sub fun n hn => by simp [I.reads, hn]), agree_X (x := x) (sub fun n hn => by simp [I.reads, hn]), source_wt] at h ⊢
    split at h
    · rename_i ys hys
      split at h
      · rename_i hall
        rw [if_pos hall]
        split at h
        · split at h
          · rename_i hsz
            rw [if_pos hsz]
            split at h
            · rename_i st' hn
              rw [new_wt hn]
              simp only [Option.some.injEq, Prod.mk.injEq] at h ⊢
              obtain ⟨rfl, rfl⟩ := h; exact ⟨rfl, rfl⟩
            · cases h
          · cases h
        · rename_i lv sv ver len hX
          simp only [wt_at, wt_put]
          split at h
          · rename_i b xs hat
            split at h
            · rename_i hc
              rw [if_pos hc]
              simp only [Option.some.injEq, Prod.mk.injEq] at h ⊢
              obtain ⟨rfl, rfl⟩ := h; exact ⟨rfl, rfl⟩
            · cases h
          · cases h
        · cases h
      · cases h
    · cases h
  | _ => simp [evalW] at h

theorem guardOf_getD (g : Option (Option Nat × Bool)) : guardOf S g = match g with
    | none => some true
    | some (none, _) => some false
    | some (some t, want) => match S.tmps.getD t .undef with
      | .bool b => some (b == want)
      | .skp => some false
      | _ => none := by
  cases g with
  | none => rfl
  | some q =>
    obtain ⟨t, want⟩ := q
    cases t with
    | none => rfl
    | some t =>
      simp only [guardOf, List.getD_eq_getElem?_getD]
      cases hq : S.tmps[t]? with
      | none => rfl
      | some v => cases v <;> rfl
theorem guardOf_wt {ts : List AV} {g : Option (Option Nat × Bool)} (h : Agree S (S.wt ts) (match g with | some (some t, _) => [t] | _ => [])) : guardOf (S.wt ts) g = guardOf S g := by
  rw [guardOf_getD, guardOf_getD]
  cases g with
  | none => rfl
  | some q =>
    obtain ⟨t, want⟩ := q
    cases t with
    | none => rfl
    | some t =>
      have := h t (by simp)
      simp only []
      rw [this]

theorem wplaces_wt {ts : List AV} {op : I} (h : Agree S (S.wt ts) op.reads) : wplaces (S.wt ts) op = wplaces S op := by
  cases op with
  | store n p x => simp only [wplaces, agree_X (x := p) (h.mono fun n hn => by simp [I.reads, hn]), agree_X (x := x) (h.mono fun n hn => by simp [I.reads, hn])]
  | app fl sz b p x => simp only [wplaces, agree_X (x := p) (h.mono fun n hn => by simp [I.reads, hn]), agree_X (x := x) (h.mono fun n hn => by simp [I.reads, hn])]
  | _ => rfl
theorem apartOk_wt {ts : List AV} {op : I} (h : Agree S (S.wt ts) op.reads) : ∀ {l : List X}, Agree S (S.wt ts) (l.flatMap xTmp) → apartOk (S.wt ts) op l = apartOk S op l
  | [], _ => rfl
  | x :: r, hl => by
    simp only [apartOk, wplaces_wt h, agree_X (x := x) (hl.mono fun n hn => by simp [hn])]
    rw [apartOk_wt h (hl.mono fun n hn => by simp only [List.flatMap_cons, List.mem_append]; exact .inr hn)]

theorem rootsOk_agree {a : X} : ∀ {l : List X}, Agree S S' (xTmp a) → Agree S S' (l.flatMap xTmp) → rootsOk S' a l = rootsOk S a l
  | [], _, _ => rfl
  | x :: r, ha, hl => by
    simp only [rootsOk, agree_X ha, agree_X (x := x) (hl.mono fun n hn => by simp [hn])]
    rw [rootsOk_agree ha (hl.mono fun n hn => by simp only [List.flatMap_cons, List.mem_append]; exact .inr hn)]
theorem keyedOk_wt {ts : List AV} : ∀ {l : List X}, Agree S (S.wt ts) (l.flatMap xTmp) → keyedOk (S.wt ts) l = keyedOk S l
  | [], _ => rfl
  | x :: r, hl => by
    simp only [keyedOk, agree_X (x := x) (hl.mono fun n hn => by simp [hn])]
    rw [keyedOk_wt (hl.mono fun n hn => by simp only [List.flatMap_cons, List.mem_append]; exact .inr hn)]
    rfl
theorem readsAt_sub {op : I} {a : X} (h : readsAt op = some a) : ∀ n ∈ xTmp a, n ∈ op.reads := by
  intro n hn
  cases op <;> simp [readsAt] at h <;> try (subst h; simp [I.reads, hn])
  rename_i str x
  cases str <;> simp at h
  subst h; simp [I.reads, hn]
theorem quietOk_wt {ts : List AV} {op : I} {l : List X} (h : Agree S (S.wt ts) op.reads) (hl : Agree S (S.wt ts) (l.flatMap xTmp)) : quietOk (S.wt ts) op l = quietOk S op l := by
  unfold quietOk
  cases hr : readsAt op with
  | none => exact keyedOk_wt hl
  | some a => exact rootsOk_agree (h.mono (readsAt_sub hr)) hl

/-- What an operation comes to, with whatever temporaries it does not read. -/
theorem evalOp_char {O : Oracle} {md : Nat → Mode} {z : IOp} {S1 : St} (h : evalOp O md z S = some S1) :
    ∃ (v : AV) (H : St), S1 = H.setT z.dst v ∧ H.tmps = S.tmps ∧ ∀ ts, Agree S (S.wt ts) z.reads → evalOp O md z (S.wt ts) = some ((H.wt ts).setT z.dst v) := by
  unfold evalOp at h
  split at h
  · rename_i hg
    unfold evalI at h
    split at h
    · rename_i hw
      split at h
      · rename_i hap
        split at h
        · rename_i v H hq
          cases h
          refine ⟨v, H, rfl, evalW_tmps hq, fun ts ht => ?_⟩
          have hr : Agree S (S.wt ts) z.op.reads := ht.mono fun n hn => by simp [IOp.reads, hn]
          unfold evalOp
          rw [guardOf_wt (ht.mono fun n hn => by unfold IOp.reads; simp only [List.mem_append]; exact .inl (.inr hn)), hg]
          simp only []
          unfold evalI
          rw [if_pos hw, apartOk_wt hr (ht.mono fun n hn => by unfold IOp.reads; simp only [List.mem_append]; exact .inr hn), keyedOk_wt (ht.mono fun n hn => by unfold IOp.reads; simp only [List.mem_append]; exact .inr hn), if_pos hap, evalW_wt hr hq]
        · cases h
      · cases h
    · rename_i hw
      split at h
      rotate_left
      · cases h
      rename_i hqo
      split at h
      · rename_i v n hq
        split at h
        · rename_i H hn
          cases h
          refine ⟨v, H, rfl, (addNews_tmps hn).1, fun ts ht => ?_⟩
          have hr : Agree S (S.wt ts) z.op.reads := ht.mono fun n hn => by simp [IOp.reads, hn]
          unfold evalOp
          rw [guardOf_wt (ht.mono fun n hn => by unfold IOp.reads; simp only [List.mem_append]; exact .inl (.inr hn)), hg]
          simp only []
          unfold evalI
          rw [if_neg hw, quietOk_wt hr (ht.mono fun n hn => by unfold IOp.reads; simp only [List.mem_append]; exact .inr hn), if_pos hqo, evalQ_mono hr (fun _ _ _ _ _ b hb => hb) (fun _ _ _ _ b hb => hb) (fun _ => ⟨rfl, rfl⟩) hq]
          simp only []
          rw [addNews_wt hn]
        · cases h
      · cases h
  · rename_i hg
    cases h
    refine ⟨.skp, S, rfl, rfl, fun ts ht => ?_⟩
    unfold evalOp
    rw [guardOf_wt (ht.mono fun n hn => by unfold IOp.reads; simp only [List.mem_append]; exact .inl (.inr hn)), hg]
  · cases h
end
end Go.Ae
