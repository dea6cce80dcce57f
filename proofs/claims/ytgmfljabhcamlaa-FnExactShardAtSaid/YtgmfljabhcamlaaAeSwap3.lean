/- Two operations of a region change places: it comes to the same. -/
import Derived.Test.YtgmfljabhcamlaaAeSwap2
namespace Go.Ae
open Go.RowKit
set_option linter.unusedVariables false
set_option linter.unusedSimpArgs false
section
variable {S S' : St}

theorem set_set_comm {a b : Nat} (hab : a ≠ b) (x y : Option Blk) : ∀ h : Heap, (h.set a x).set b y = (h.set b y).set a x
  | [] => by
    simp only [Heap.set]
    rw [if_neg (Ne.symm hab), if_neg hab]
    by_cases h1 : a < b
    · rw [if_neg (by omega), if_pos h1]
    · rw [if_pos (by omega), if_neg h1]
  | (t, c) :: r => by
    have ih := set_set_comm hab x y r
    simp only [Heap.set]
    by_cases h1 : a = t
    · subst h1
      rw [if_pos rfl]
      by_cases h2 : b = a
      · exact absurd h2.symm hab
      · rw [if_neg h2]
        simp only [Heap.set]
        rw [if_neg h2]
        by_cases h3 : b < a
        · rw [if_pos h3, if_pos h3]; simp only [Heap.set]; rw [if_neg (by omega), if_neg (by omega), if_pos True.intro]
        · rw [if_neg h3, if_neg h3]; simp only [Heap.set]; rw [if_pos True.intro]
    · rw [if_neg h1]
      by_cases h2 : b = t
      · subst h2
        rw [if_pos rfl]
        by_cases h3 : a < b
        · rw [if_pos h3]; simp only [Heap.set]; rw [if_neg (by omega), if_neg (by omega), if_pos True.intro, if_neg h1, if_pos h3]
        · rw [if_neg h3]; simp only [Heap.set]; rw [if_pos True.intro, if_neg h1, if_neg h3]
      · rw [if_neg h2]
        by_cases h3 : a < t
        · rw [if_pos h3]
          by_cases h4 : b < t
          · rw [if_pos h4]
            simp only [Heap.set]
            by_cases h5 : a < b
            · rw [if_neg (by omega), if_neg (by omega), if_neg h2, if_pos h4, if_neg (by omega), if_pos h5]
            · rw [if_neg (by omega), if_pos (by omega), if_neg (by omega), if_neg (by omega), if_neg h1, if_pos h3]
          · rw [if_neg h4]
            simp only [Heap.set]
            rw [if_neg (by omega), if_neg (by omega), if_neg h2, if_neg h4, if_neg h1, if_pos h3]
        · rw [if_neg h3]
          by_cases h4 : b < t
          · rw [if_pos h4]
            simp only [Heap.set]
            rw [if_neg h2, if_pos h4, if_neg (by omega), if_neg (by omega), if_neg h1, if_neg h3]
          · rw [if_neg h4]
            simp only [Heap.set]
            rw [if_neg h2, if_neg h4, if_neg h1, if_neg h3, ih]

theorem new_iff {s : Nat} {b : Blk} {S1 : St} : S.new s b = some S1 ↔ S.loc.get s = none ∧ S1 = { S with loc := S.loc.set s (some b) } := by
  refine ⟨new_get, fun ⟨h1, h2⟩ => ?_⟩
  unfold St.new; rw [h1, h2]
theorem new_comm {s t : Nat} {b c : Blk} {S1 S2 : St} (h1 : S.new s b = some S1) (h2 : S1.new t c = some S2) : ∃ S3, S.new t c = some S3 ∧ S3.new s b = some S2 := by
  obtain ⟨a1, rfl⟩ := new_get h1
  obtain ⟨a2, rfl⟩ := new_get h2
  simp only at a2
  rw [get_set] at a2
  by_cases hst : t = s
  · subst hst; simp at a2
  · rw [if_neg hst] at a2
    refine ⟨_, new_iff.2 ⟨a2, rfl⟩, new_iff.2 ⟨?_, ?_⟩⟩
    · show (S.loc.set t (some c)).get s = none
      rw [get_set, if_neg (Ne.symm hst)]; exact a1
    · show ({ S with loc := (S.loc.set s (some b)).set t (some c) } : St) = { S with loc := (S.loc.set t (some c)).set s (some b) }
      rw [set_set_comm (Ne.symm hst)]
theorem addNews_new {s : Nat} {b : Blk} : ∀ {n : List (Nat × Blk)} {S S1 S2 : St}, S.new s b = some S1 → addNews S1 n = some S2 → ∃ S3, addNews S n = some S3 ∧ S3.new s b = some S2
  | [], S, S1, S2, h1, h2 => by cases h2; exact ⟨S, rfl, h1⟩
  | (t, c) :: r, S, S1, S2, h1, h2 => by
    simp only [addNews] at h2 ⊢
    cases hn : S1.new t c with
    | none => simp [hn] at h2
    | some S4 =>
      rw [hn] at h2
      obtain ⟨S5, k1, k2⟩ := new_comm h1 hn
      rw [k1]
      exact addNews_new k2 h2
theorem addNews_comm : ∀ {n m : List (Nat × Blk)} {S S1 S2 : St}, addNews S n = some S1 → addNews S1 m = some S2 → ∃ S3, addNews S m = some S3 ∧ addNews S3 n = some S2
  | [], m, S, S1, S2, h1, h2 => by cases h1; exact ⟨S2, h2, rfl⟩
  | (s, b) :: r, m, S, S1, S2, h1, h2 => by
    simp only [addNews] at h1
    cases hn : S.new s b with
    | none => simp [hn] at h1
    | some S4 =>
      rw [hn] at h1
      obtain ⟨S5, k1, k2⟩ := addNews_comm h1 h2
      obtain ⟨S6, j1, j2⟩ := addNews_new hn k1
      exact ⟨S6, j1, by simp only [addNews]; rw [j2]; exact k2⟩
theorem addNews_holds : ∀ {n : List (Nat × Blk)} {S S1 : St}, addNews S n = some S1 → ∀ lv s, Holds S S1 lv s
  | [], S, S1, h, lv, s, b, hb => by cases h; exact hb
  | (t, c) :: r, S, S1, h, lv, s, b, hb => by
    simp only [addNews] at h
    cases hn : S.new t c with
    | none => simp [hn] at h
    | some S4 =>
      rw [hn] at h
      refine addNews_holds h lv s b ?_
      rw [new_blk hn]
      by_cases hl : lv = 0 ∧ s = t
      · obtain ⟨rfl, rfl⟩ := hl
        have := (new_get hn).1
        unfold St.blk at hb
        simp [St.heap, this] at hb
      · rw [if_neg hl]; exact hb

/-- A store, an append leaves every other place as it was. -/
theorem evalW_holds {O : Oracle} {md : Nat → Mode} {base : Nat} {op : I} {v : AV} {S1 : St} {lv s : Nat} (hop : (match op with | .store .. | .app .. => true | _ => false) = true)
    (hp : (lv, s) ∉ wplaces S op) (h : evalW O md S base op = some (v, S1)) : Holds S S1 lv s := by
  cases op with
  | store n p x =>
    intro b hb
    simp only [evalW] at h
    cases hX : evalX S p with
    | ptr lv' s' ver pa i c =>
      have hne : ¬ (lv = lv' ∧ s = s') := fun ⟨e1, e2⟩ => hp (by simp [wplaces, hX, e1, e2])
      cases hc : (evalX S x).cells with
      | none => simp [hX, hc] at h
      | some ws =>
        simp only [hX, hc] at h
        split at h
        · rename_i bb ys hat
          obtain ⟨ob, hob⟩ : ∃ ob, (S.heap lv').get s' = some ob := by
            unfold St.at at hat
            split at hat
            · rename_i b' hb'
              unfold St.blk at hb'
              split at hb'
              · rename_i b'' hg; exact ⟨_, hg⟩
              · cases hb'
            · cases hat
          split at h
          · split at h
            · split at h
              · split at h
                · split at h
                  · simp only [Option.some.injEq, Prod.mk.injEq] at h
                    obtain ⟨_, rfl⟩ := h
                    rw [blk_put hob, if_neg hne]; exact hb
                  · cases h
                · split at h
                  · split at h
                    · rename_i st' hn
                      simp only [Option.some.injEq, Prod.mk.injEq] at h
                      obtain ⟨_, rfl⟩ := h
                      obtain ⟨ob', hob'⟩ : ∃ ob', (st'.heap lv').get s' = some ob' := by
                        unfold St.at at hat
                        split at hat
                        · rename_i b' hb'
                          have := addNews_holds hn lv' s' b' hb'
                          unfold St.blk at this
                          split at this
                          · rename_i b'' hg; exact ⟨_, hg⟩
                          · cases this
                        · cases hat
                      rw [blk_put hob', if_neg hne]
                      exact addNews_holds hn lv s b hb
                    · cases h
                  · cases h
              · split at h
                · split at h
                  · simp only [Option.some.injEq, Prod.mk.injEq] at h
                    obtain ⟨_, rfl⟩ := h
                    rw [blk_put hob, if_neg hne]; exact hb
                  · cases h
                · cases h
            · cases h
          · cases h
        · cases h
    | _ => simp [hX] at h
  | app fl sz bytes q x =>
    intro b hb
    simp only [evalW] at h
    split at h
    · split at h
      · split at h
        · split at h
          · split at h
            · rename_i hn
              simp only [Option.some.injEq, Prod.mk.injEq] at h
              obtain ⟨_, rfl⟩ := h
              exact addNews_holds (n := [(_, _)]) (by simp only [addNews]; rw [hn]) lv s b hb
            · cases h
          · cases h
        · rename_i lv' s' ver len hX
          have hne : ¬ (lv = lv' ∧ s = s') := fun ⟨e1, e2⟩ => hp (by simp [wplaces, hX, e1, e2])
          split at h
          · rename_i bb xs hat
            split at h
            · obtain ⟨ob, hob⟩ : ∃ ob, (S.heap lv').get s' = some ob := by
                unfold St.at at hat
                split at hat
                · rename_i b' hb'
                  unfold St.blk at hb'
                  split at hb'
                  · rename_i b'' hg; exact ⟨_, hg⟩
                  · cases hb'
                · cases hat
              simp only [Option.some.injEq, Prod.mk.injEq] at h
              obtain ⟨_, rfl⟩ := h
              rw [blk_put hob, if_neg hne]; exact hb
            · cases h
          · cases h
        · cases h
      · cases h
    · cases h
  | _ => simp at hop

theorem addNews_get : ∀ {n : List (Nat × Blk)} {S S1 : St} {lv s : Nat} {ob : Option Blk}, addNews S n = some S1 → (S.heap lv).get s = some ob → (S1.heap lv).get s = some ob
  | [], S, S1, lv, s, ob, h, hg => by cases h; exact hg
  | (t, c) :: r, S, S1, lv, s, ob, h, hg => by
    simp only [addNews] at h
    cases hn : S.new t c with
    | none => simp [hn] at h
    | some S4 =>
      rw [hn] at h
      refine addNews_get h ?_
      rw [new_heap hn]
      by_cases hl : lv = 0 ∧ s = t
      · obtain ⟨rfl, rfl⟩ := hl
        have := (new_get hn).1
        simp only [St.heap] at hg
        rw [this] at hg; cases hg
      · rw [if_neg hl]; exact hg
theorem keyedOk_mono : ∀ {l : List X}, Agree S S' (l.flatMap xTmp) → (∀ lv s ob, (S.heap lv).get s = some ob → (S'.heap lv).get s = some ob) → keyedOk S l = true → keyedOk S' l = true
  | [], _, _, _ => rfl
  | x :: r, hl, hg, h => by
    simp only [keyedOk, Bool.and_eq_true] at h ⊢
    rw [agree_X (x := x) (hl.mono fun n hn => by simp [hn])]
    refine ⟨?_, keyedOk_mono (hl.mono fun n hn => by simp only [List.flatMap_cons, List.mem_append]; exact .inr hn) hg h.2⟩
    have h1 := h.1
    cases hp : placeOf (evalX S x) with
    | none => simp
    | some q =>
      obtain ⟨lv, s⟩ := q
      simp only [hp] at h1 ⊢
      cases hk : (S.heap lv).get s with
      | none => simp [hk] at h1
      | some ob => rw [hg lv s ob hk]; rfl
theorem keyedOk_mem : ∀ {l : List X} {x : X} {lv s : Nat}, keyedOk S l = true → x ∈ l → placeOf (evalX S x) = some (lv, s) → ∃ ob, (S.heap lv).get s = some ob
  | [], x, lv, s, _, hx, _ => by simp at hx
  | y :: r, x, lv, s, h, hx, hp => by
    simp only [keyedOk, Bool.and_eq_true] at h
    rcases List.mem_cons.1 hx with rfl | hx
    · have := h.1
      rw [hp] at this
      exact Option.isSome_iff_exists.1 this
    · exact keyedOk_mem h.2 hx hp
theorem keyedOk_of : ∀ {l : List X}, (∀ x ∈ l, ∀ lv s, placeOf (evalX S x) = some (lv, s) → ∃ ob, (S.heap lv).get s = some ob) → keyedOk S l = true
  | [], _ => rfl
  | y :: r, h => by
    simp only [keyedOk, Bool.and_eq_true]
    refine ⟨?_, keyedOk_of fun x hx => h x (List.mem_cons_of_mem _ hx)⟩
    cases hp : placeOf (evalX S y) with
    | none => rfl
    | some q =>
      obtain ⟨lv, s⟩ := q
      obtain ⟨ob, hob⟩ := h y List.mem_cons_self lv s hp
      simp [hob]
theorem rootsOk_mem {a : X} : ∀ {l : List X} {x : X}, rootsOk S a l = true → x ∈ l → placeOf (evalX S x) = placeOf (evalX S a)
  | [], x, _, hx => by simp at hx
  | y :: r, x, h, hx => by
    simp only [rootsOk, Bool.and_eq_true, beq_iff_eq] at h
    rcases List.mem_cons.1 hx with rfl | hx
    · exact h.1
    · exact rootsOk_mem h.2 hx
theorem points_place {v : AV} {lv s : Nat} (h : Points v lv s) : placeOf v = some (lv, s) := by
  rcases h with ⟨_, _, _, _, rfl⟩ | ⟨_, _, _, _, rfl⟩ <;> rfl
theorem same_eq {a b : X} (h : a.same b = true) : a = b := by
  cases a <;> cases b <;> simp [X.same] at h
  rw [h]
theorem quietOk_nil (op : I) : quietOk S op [] = true := by
  unfold quietOk; cases readsAt op <;> rfl
theorem apartOk_mem {op : I} : ∀ {l : List X} {x : X} {lv s : Nat}, apartOk S op l = true → x ∈ l → placeOf (evalX S x) = some (lv, s) → (lv, s) ∉ wplaces S op
  | [], x, lv, s, _, hx, _ => by simp at hx
  | y :: r, x, lv, s, h, hx, hp => by
    simp only [apartOk, Bool.and_eq_true] at h
    rcases List.mem_cons.1 hx with rfl | hx
    · have h1 := h.1
      cases hv : evalX S x with
      | sl lv' s' ver p off len =>
        rw [hv] at hp h1
        simp only [placeOf, Option.some.injEq, Prod.mk.injEq] at hp
        obtain ⟨rfl, rfl⟩ := hp
        simpa using h1
      | ptr lv' s' ver p i c =>
        rw [hv] at hp h1
        simp only [placeOf, Option.some.injEq, Prod.mk.injEq] at hp
        obtain ⟨rfl, rfl⟩ := hp
        simpa using h1
      | _ => rw [hv] at hp; simp [placeOf] at hp
    · exact apartOk_mem h.2 hx hp
/-- The place of what is read is that of one of these. -/
theorem underAny_spec {x : IOp} {l : List X} {a : X} (h : underAny x l = true) (ha : readsAt x.op = some a) (hr : rootsOk S a x.apart = true) : ∃ b ∈ l, placeOf (evalX S b) = placeOf (evalX S a) ∧ (b = a ∨ b ∈ x.apart) := by
  unfold underAny at h
  simp only [ha, List.any_eq_true, Bool.or_eq_true] at h
  obtain ⟨b, hb, h1 | ⟨r, hr', h1⟩⟩ := h
  · have := same_eq h1; subst this; exact ⟨a, hb, rfl, .inl rfl⟩
  · have := same_eq h1; subst this; exact ⟨r, hb, rootsOk_mem hr hr', .inr hr'⟩

/-- What is left: the guard has said no, or the operation is done. -/
theorem evalOp_cases {O : Oracle} {md : Nat → Mode} {y : IOp} {S1 : St} (h : evalOp O md y S = some S1) :
    (guardOf S y.g = some false ∧ S1 = S.setT y.dst .skp) ∨ (guardOf S y.g = some true ∧ evalI O md y S = some S1) := by
  unfold evalOp at h
  split at h
  · rename_i hg; exact .inr ⟨hg, h⟩
  · rename_i hg; cases h; exact .inl ⟨hg, rfl⟩
  · cases h
theorem guardOf_agree {g : Option (Option Nat × Bool)} (h : Agree S S' (match g with | some (some t, _) => [t] | _ => [])) : guardOf S' g = guardOf S g := by
  rw [guardOf_getD, guardOf_getD]
  cases g with
  | none => rfl
  | some q =>
    obtain ⟨t, want⟩ := q
    cases t with
    | none => rfl
    | some t =>
      have := h t (by simp)
      simp only []
      rw [this]
theorem Agree.g {y : IOp} (h : Agree S S' y.reads) : Agree S S' (match y.g with | some (some t, _) => [t] | _ => []) :=
  h.mono fun n hn => by unfold IOp.reads; simp only [List.mem_append]; exact .inl (.inr hn)
theorem Agree.op {y : IOp} (h : Agree S S' y.reads) : Agree S S' y.op.reads :=
  h.mono fun n hn => by simp [IOp.reads, hn]
theorem writes_w {md : Nat → Mode} {op : I} : writes md op = (memOf md op).w := by
  cases op with
  | call f a fl => cases h : md f <;> simp [writes, memOf, h]
  | len s x => cases s <;> rfl
  | _ => rfl

/-- An operation that hangs on its temporaries only and makes nothing. -/
def Still (O : Oracle) (md : Nat → Mode) (y : IOp) (S S1 : St) : Prop := ∃ v, S1 = S.setT y.dst v ∧ ∀ S', Agree S S' y.reads → evalOp O md y S' = some (S'.setT y.dst v)
theorem still_skip {O : Oracle} {md : Nat → Mode} {y : IOp} {S1 : St} (hg : guardOf S y.g = some false) (h1 : S1 = S.setT y.dst .skp) : Still O md y S S1 :=
  ⟨.skp, h1, fun S' ha => by unfold evalOp; rw [guardOf_agree ha.g, hg]⟩
theorem still_pure {O : Oracle} {md : Nat → Mode} {y : IOp} {S1 : St} (hap : y.apart = []) (hp : (memOf md y.op).pure = true) (hg : guardOf S y.g = some true) (h : evalI O md y S = some S1) : Still O md y S S1 := by
  simp only [Mem.pure, Bool.and_eq_true, Bool.not_eq_true'] at hp
  obtain ⟨⟨⟨ht, hw⟩, hk⟩, hv⟩ := hp
  unfold evalI at h
  rw [writes_w, hw] at h
  simp only [Bool.false_eq_true, if_false, hap, quietOk_nil, if_true] at h
  split at h
  · rename_i v n hq
    have := evalQ_none hk hq
    subst this
    simp only [addNews, Option.some.injEq] at h
    refine ⟨v, h.symm, fun S' ha => ?_⟩
    unfold evalOp
    rw [guardOf_agree ha.g, hg]
    simp only []
    unfold evalI
    rw [writes_w, hw]
    simp only [Bool.false_eq_true, if_false, hap, quietOk_nil, if_true]
    have hra : ∀ a, readsAt y.op = some a → (memOf md y.op).t = true := fun a ha => by
      cases hop : y.op <;> rw [hop] at ha <;> first | rfl | (simp [readsAt] at ha; done) | skip
      rename_i str x; cases str <;> first | rfl | simp [readsAt] at ha
    rw [evalQ_mono ha.op (fun a h2 => by rw [hra a h2] at ht; cases ht) (fun _ h2 => by rw [ht] at h2; cases h2) (fun h2 => by rw [hv] at h2; cases h2) hq]
    rfl
  · cases h

theorem indep_spec {x y : IOp} (h : x.indep y = true) : (∀ d, x.dst = some d → d ∉ y.reads) ∧ (∀ d, x.dst = some d → y.dst ≠ some d) ∧ (∀ d, y.dst = some d → d ∉ x.reads) := by
  unfold IOp.indep at h
  simp only [Bool.and_eq_true] at h
  obtain ⟨h1, h2⟩ := h
  refine ⟨fun d hd => ?_, fun d hd => ?_, fun d hd => ?_⟩
  · rw [hd] at h1; simp at h1; exact h1.1
  · rw [hd] at h1; simp at h1; exact h1.2
  · rw [hd] at h2; simp at h2; exact h2

theorem at_key {lv s ver : Nat} {p : Path} {q : Blk × List (List AV)} (h : S.at lv s ver p = some q) : ∃ ob, (S.heap lv).get s = some ob := by
  unfold St.at at h
  split at h
  · rename_i b hb; exact ⟨_, blk_get hb⟩
  · cases h
theorem new_put {lv s t : Nat} {b : Option Blk} {c : Blk} {ob : Option Blk} {S4 : St} (hk : (S.heap lv).get s = some ob) (h : (S.put lv s b).new t c = some S4) : ∃ S5, S.new t c = some S5 ∧ S4 = S5.put lv s b := by
  obtain ⟨h1, rfl⟩ := new_get h
  cases lv with
  | zero =>
    have hst : s ≠ t := fun e => by
      subst e
      have : ((S.put 0 s b).loc).get s = some b := by show (S.loc.set s b).get s = some b; rw [get_set, if_pos rfl]
      rw [this] at h1; cases h1
    have h2 : S.loc.get t = none := by
      have : (S.loc.set s b).get t = none := h1
      rw [get_set, if_neg (Ne.symm hst)] at this; exact this
    refine ⟨_, new_iff.2 ⟨h2, rfl⟩, ?_⟩
    show ({ S with loc := (S.loc.set s b).set t (some c) } : St) = { S with loc := (S.loc.set t (some c)).set s b }
    rw [set_set_comm hst]
  | succ n => exact ⟨_, new_iff.2 ⟨h1, rfl⟩, rfl⟩
theorem news_put : ∀ {n : List (Nat × Blk)} {S H2 : St} {lv s : Nat} {b : Option Blk} {ob : Option Blk}, (S.heap lv).get s = some ob → addNews (S.put lv s b) n = some H2 → ∃ Y, addNews S n = some Y ∧ H2 = Y.put lv s b
  | [], S, H2, lv, s, b, ob, hk, h => by cases h; exact ⟨S, rfl, rfl⟩
  | (t, c) :: r, S, H2, lv, s, b, ob, hk, h => by
    simp only [addNews] at h ⊢
    cases hn : (S.put lv s b).new t c with
    | none => simp [hn] at h
    | some S4 =>
      rw [hn] at h
      obtain ⟨S5, k1, rfl⟩ := new_put hk hn
      rw [k1]
      exact news_put (addNews_get (n := [(t, c)]) (by simp only [addNews]; rw [k1]) hk) h
/-- A store, an append: what is elsewhere stays; what is there stays there; what is new does not matter. -/
theorem evalW_sa {O : Oracle} {md : Nat → Mode} {base : Nat} {op : I} {v : AV} {H : St} (hop : isSA op = true) (h : evalW O md S base op = some (v, H)) :
    (∀ lv s ob, (S.heap lv).get s = some ob → ∃ ob', (H.heap lv).get s = some ob' ∧ ((lv, s) ∉ wplaces S op → ob' = ob)) ∧
    (∀ nz S2 H2, addNews S nz = some S2 → addNews H nz = some H2 → evalW O md S2 base op = some (v, H2)) := by
  have key : ∀ {T : St} {lv s : Nat} {b : Option Blk} {ob0 : Option Blk} {news : List (Nat × Blk)}, (S.heap lv).get s = some ob0 → addNews S news = some T → (lv, s) ∈ wplaces S op →
      ∀ lv' s' ob, (S.heap lv').get s' = some ob → ∃ ob', ((T.put lv s b).heap lv').get s' = some ob' ∧ ((lv', s') ∉ wplaces S op → ob' = ob) := fun {T lv s b ob0 news} hk hn hw lv' s' ob hg => by
    have hk' := addNews_get hn hk
    have hg' := addNews_get hn hg
    rw [get_put hk']
    by_cases hl : lv' = lv ∧ s' = s
    · obtain ⟨rfl, rfl⟩ := hl
      exact ⟨b, by simp, fun hnot => absurd hw hnot⟩
    · rw [if_neg hl]; exact ⟨ob, hg', fun _ => rfl⟩
  cases op with
  | store n p x =>
    simp only [evalW] at h
    cases hX : evalX S p with
    | ptr lv s ver pa i c =>
      have hwp : (lv, s) ∈ wplaces S (.store n p x) := by simp [wplaces, hX]
      cases hc : (evalX S x).cells with
      | none => simp [hX, hc] at h
      | some ws =>
        simp only [hX, hc] at h
        split at h
        · rename_i bb ys hat
          obtain ⟨ob, hob⟩ := at_key hat
          have agX : ∀ {nz S2}, addNews S nz = some S2 → evalX S2 p = .ptr lv s ver pa i c ∧ (evalX S2 x).cells = some ws ∧ S2.at lv s ver pa = some (bb, ys) := fun {nz S2} hn => by
            have ht := (addNews_tmps hn).1
            have ex : ∀ y : X, evalX S2 y = evalX S y := fun y => by cases y <;> simp [evalX, ht]
            rw [ex, ex]; exact ⟨hX, hc, at_mono (addNews_holds hn lv s) hat⟩
          split at h
          · rename_i row hrow
            split at h
            · rename_i hcond
              split at h
              · rename_i hb
                split at h
                · rename_i hl
                  split at h
                  · rename_i hsc
                    simp only [Option.some.injEq, Prod.mk.injEq] at h
                    obtain ⟨rfl, rfl⟩ := h
                    refine ⟨key hob (news := []) rfl hwp, fun nz S2 H2 hn hm => ?_⟩
                    obtain ⟨Y, y1, rfl⟩ := news_put hob hm
                    rw [hn] at y1; cases y1
                    obtain ⟨a1, a2, a3⟩ := agX hn
                    simp only [evalW, a1, a2, a3, hrow]
                    rw [if_pos hcond, if_pos hb, if_pos hl, if_pos hsc]
                  · cases h
                · rename_i hl
                  split at h
                  · rename_i cs news hbc
                    split at h
                    · rename_i st' hn0
                      simp only [Option.some.injEq, Prod.mk.injEq] at h
                      obtain ⟨rfl, rfl⟩ := h
                      refine ⟨key hob hn0 hwp, fun nz S2 H2 hn hm => ?_⟩
                      obtain ⟨Y, y1, rfl⟩ := news_put (addNews_get hn0 hob) hm
                      obtain ⟨S3, z1, z2⟩ := addNews_comm hn0 y1
                      rw [hn] at z1; cases z1
                      obtain ⟨a1, a2, a3⟩ := agX hn
                      simp only [evalW, a1, a2, a3, hrow]
                      rw [if_pos hcond, if_pos hb, if_neg hl, hbc]
                      simp only [z2]
                    · cases h
                  · cases h
              · rename_i hb
                split at h
                · split at h
                  · rename_i cs hcs
                    simp only [Option.some.injEq, Prod.mk.injEq] at h
                    obtain ⟨rfl, rfl⟩ := h
                    refine ⟨key hob (news := []) rfl hwp, fun nz S2 H2 hn hm => ?_⟩
                    obtain ⟨Y, y1, rfl⟩ := news_put hob hm
                    rw [hn] at y1; cases y1
                    obtain ⟨a1, a2, a3⟩ := agX hn
                    simp only [evalW, a1, a2, a3, hrow]
                    rw [if_pos hcond, if_neg hb]
                    simp only [hcs]
                  · cases h
                · cases h
            · cases h
          · cases h
        · cases h
    | _ => simp [hX] at h
  | app fl sz bytes q x =>
    simp only [evalW] at h
    have agX : ∀ {nz S2}, addNews S nz = some S2 → ∀ y : X, evalX S2 y = evalX S y := fun {nz S2} hn y => by
      have ht := (addNews_tmps hn).1
      cases y <;> simp [evalX, ht]
    have src : ∀ {nz S2 ys}, addNews S nz = some S2 → source S (evalX S x) = some ys → source S2 (evalX S x) = some ys := fun {nz S2 ys} hn hs => by
      cases hv : evalX S x with
      | sl lv s ver p off len =>
        rw [hv] at hs
        simp only [source] at hs ⊢
        cases ha : S.at lv s ver p with
        | none => simp [ha] at hs
        | some w => rw [at_mono (addNews_holds hn lv s) ha]; rw [ha] at hs; exact hs
      | rd fl xs => rw [hv] at hs; cases fl <;> exact hs
      | _ => rw [hv] at hs; exact hs
    split at h
    · rename_i ys hys
      split at h
      · rename_i hall
        split at h
        · rename_i hX
          split at h
          · rename_i hsz
            split at h
            · rename_i st' hn0
              simp only [Option.some.injEq, Prod.mk.injEq] at h
              obtain ⟨rfl, rfl⟩ := h
              have hn1 : addNews S [(base, { ver := 0, sz := sz, box := false, fl := fl, elems := ys })] = some st' := by simp only [addNews]; rw [hn0]
              refine ⟨fun lv s ob hg => ⟨ob, addNews_get hn1 hg, fun _ => rfl⟩, fun nz S2 H2 hn hm => ?_⟩
              obtain ⟨S3, z1, z2⟩ := addNews_comm hn1 hm
              rw [hn] at z1; cases z1
              simp only [evalW, agX hn, src hn hys, hX]
              rw [if_pos hall, if_pos hsz]
              simp only [addNews] at z2
              split at z2
              · rename_i S5 h5; cases z2; rfl
              · cases z2
            · cases h
          · cases h
        · rename_i lv s ver len hX
          have hwp : (lv, s) ∈ wplaces S (.app fl sz bytes q x) := by simp [wplaces, hX]
          split at h
          · rename_i bb xs hat
            obtain ⟨ob, hob⟩ := at_key hat
            split at h
            · rename_i hc
              simp only [Option.some.injEq, Prod.mk.injEq] at h
              obtain ⟨rfl, rfl⟩ := h
              refine ⟨key hob (news := []) rfl hwp, fun nz S2 H2 hn hm => ?_⟩
              obtain ⟨Y, y1, rfl⟩ := news_put hob hm
              rw [hn] at y1; cases y1
              simp only [evalW, agX hn, src hn hys, hX, at_mono (addNews_holds hn lv s) hat]
              rw [if_pos hall, if_pos hc]
            · cases h
          · cases h
        · cases h
      · cases h
    · cases h
  | _ => simp [isSA] at hop

theorem news_sub : ∀ {n : List (Nat × Blk)} {S H X : St}, (∀ s ob, S.loc.get s = some ob → ∃ ob', H.loc.get s = some ob') → addNews H n = some X → ∃ Y, addNews S n = some Y
  | [], S, H, X, _, _ => ⟨S, rfl⟩
  | (t, c) :: r, S, H, X, hs, h => by
    simp only [addNews] at h ⊢
    cases hn : H.new t c with
    | none => simp [hn] at h
    | some H4 =>
      rw [hn] at h
      obtain ⟨h1, rfl⟩ := new_get hn
      have h2 : S.loc.get t = none := by
        cases hg : S.loc.get t with
        | none => rfl
        | some ob => obtain ⟨ob', hh⟩ := hs t ob hg; rw [h1] at hh; cases hh
      rw [new_iff.2 ⟨h2, rfl⟩]
      refine news_sub (H := { H with loc := H.loc.set t (some c) }) (fun s ob hg => ?_) h
      simp only at hg ⊢
      rw [get_set] at hg ⊢
      by_cases hst : s = t
      · rw [if_pos hst]; exact ⟨_, rfl⟩
      · rw [if_neg hst] at hg ⊢; exact hs s ob hg
theorem apartOk_tmps {op : I} (h : S'.tmps = S.tmps) : ∀ {l : List X}, apartOk S' op l = apartOk S op l
  | [] => rfl
  | x :: r => by
    have ex : ∀ y : X, evalX S' y = evalX S y := fun y => by cases y <;> simp [evalX, h]
    have hw : wplaces S' op = wplaces S op := by cases op <;> simp [wplaces, ex]
    simp only [apartOk, ex, hw]
    rw [apartOk_tmps h]
theorem swap_ok {O : Oracle} {md : Nat → Mode} {y z : IOp} {S1 S2 : St} (hs : swapOk md y z = true) (h1 : evalOp O md y S = some S1) (h2 : evalOp O md z S1 = some S2) :
    ∃ S3, evalOp O md z S = some S3 ∧ evalOp O md y S3 = some S2 := by
  unfold swapOk at hs
  simp only [Bool.and_eq_true] at hs
  obtain ⟨hi, hs⟩ := hs
  obtain ⟨i1, i2, i3⟩ := indep_spec hi
  -- y is still
  have A : Still O md y S S1 → ∃ S3, evalOp O md z S = some S3 ∧ evalOp O md y S3 = some S2 := fun ⟨v, e1, hy⟩ => by
    subst e1
    obtain ⟨u, H, rfl, hH, hz⟩ := evalOp_char h2
    have hz' := hz S.tmps (by rw [setT_wt, wt_wt]; exact agree_set i1)
    rw [setT_wt, wt_wt, wt_self] at hz'
    refine ⟨_, hz', ?_⟩
    rw [hy _ (by rw [wt_setT]; exact fun n hn => (agree_set' (S := S) (S' := H) i3 n hn))]
    rw [wt_setT, wt_setT, setT_wt, hH, setT_wt, wt_tmps, dset_comm i2]
  -- z is still
  have B : Still O md z S1 S2 → ∃ S3, evalOp O md z S = some S3 ∧ evalOp O md y S3 = some S2 := fun ⟨u, e2, hz⟩ => by
    subst e2
    obtain ⟨v, H, rfl, hH, hy⟩ := evalOp_char h1
    refine ⟨_, hz S (by rw [setT_wt, hH]; exact fun n hn => (agree_set (S := H) (S' := S) i1 n hn)), ?_⟩
    rw [setT_wt, hy _ (agree_set' i3), wt_setT, setT_wt, setT_wt, hH, wt_wt, wt_tmps, dset_comm i2]
  rcases evalOp_cases h1 with ⟨g1, e1⟩ | ⟨g1, e1⟩
  · exact A (still_skip g1 e1)
  rcases evalOp_cases h2 with ⟨g2, e2⟩ | ⟨g2, e2⟩
  · exact B (still_skip g2 e2)
  simp only [Bool.or_eq_true] at hs
  have agz : Agree S1 S z.reads := by
    obtain ⟨v, H, rfl, hH, _⟩ := evalOp_char h1
    rw [setT_wt, hH]; exact fun n hn => (agree_set (S := H) (S' := S) i1 n hn)
  have zap : ∀ {S S' : St}, Agree S S' z.reads → Agree S S' (z.apart.flatMap xTmp) := fun h => h.mono fun n hn => by unfold IOp.reads; simp only [List.mem_append]; exact .inr hn
  have yap : ∀ {S S' : St}, Agree S S' y.reads → Agree S S' (y.apart.flatMap xTmp) := fun h => h.mono fun n hn => by unfold IOp.reads; simp only [List.mem_append]; exact .inr hn
  -- both are quiet
  have quiet : ∀ {x : IOp} {S S1 : St}, (memOf md x.op).w = false → evalI O md x S = some S1 → quietOk S x.op x.apart = true ∧ ∃ v n H, evalQ O md S x.base x.op = some (v, n) ∧ addNews S n = some H ∧ S1 = H.setT x.dst v := fun {x S S1} hw h => by
    unfold evalI at h
    rw [writes_w, hw] at h
    simp only [Bool.false_eq_true, if_false] at h
    split at h
    · rename_i hqo
      refine ⟨hqo, ?_⟩
      split at h
      · rename_i v n hq
        split at h
        · rename_i H hn
          cases h
          exact ⟨v, n, H, hq, hn, rfl⟩
        · cases h
      · cases h
    · cases h
  have toQuiet : ∀ {x : IOp} {S H : St} {v : AV} {n : List (Nat × Blk)}, (memOf md x.op).w = false → guardOf S x.g = some true → quietOk S x.op x.apart = true → evalQ O md S x.base x.op = some (v, n) → addNews S n = some H → evalOp O md x S = some (H.setT x.dst v) := fun {x S H v n} hw hg hqo hq hn => by
    unfold evalOp evalI
    rw [hg, writes_w, hw]
    simp only [Bool.false_eq_true, if_false]
    rw [if_pos hqo, hq]; simp only []; rw [hn]
  have rd : ∀ {op : I} {a : X}, readsAt op = some a → memOf md op = ⟨true, false, false, false⟩ := fun {op a} ha => by
    cases op <;> first | rfl | (simp [readsAt] at ha; done) | skip
    rename_i str x; cases str <;> first | rfl | simp [readsAt] at ha
  rcases hs with (((((hs | hs) | hs) | hs) | hs) | hs) | hs
  · rw [Bool.and_eq_true] at hs; exact A (still_pure (List.isEmpty_iff.1 hs.2) hs.1 g1 e1)
  · rw [Bool.and_eq_true] at hs; exact B (still_pure (List.isEmpty_iff.1 hs.2) hs.1 g2 e2)
  · simp only [Mem.free, Bool.and_eq_true, Bool.not_eq_true', Bool.and_eq_false_iff, Bool.or_eq_true] at hs
    obtain ⟨⟨⟨⟨yw, zw⟩, ykt⟩, yvk⟩, zq⟩ := hs
    obtain ⟨o1, v, n, H, q1, q2, rfl⟩ := quiet yw e1
    obtain ⟨o2, u, m, H2, q3, q4, rfl⟩ := quiet zw e2
    have ht := (addNews_tmps q2).1
    have ag : Agree (H.setT y.dst v) S z.reads := by
      rw [setT_wt, ht]; exact fun n hn => (agree_set (S := H) (S' := S) i1 n hn)
    have heap0 : (memOf md z.op).t = true → n = [] := fun hzt => by
      rcases ykt with h | h
      · exact evalQ_none h q1
      · rw [hzt] at h; cases h
    have vt : ∀ op, (memOf md op).v = true → (memOf md op).t = true := fun op h => by
      cases op with
      | call f a fl => cases hm : md f <;> simp [memOf, hm] at h ⊢
      | len s x => cases s <;> simp [memOf] at h
      | _ => first | rfl | (simp [memOf] at h; done)
    have hra : ∀ {op : I} {a : X}, readsAt op = some a → (memOf md op).t = true := fun {op a} ha => by
      cases op <;> first | rfl | (simp [readsAt] at ha; done) | skip
      rename_i str x; cases str <;> first | rfl | simp [readsAt] at ha
    have same : n = [] → H = S := fun e => by subst e; cases q2; rfl
    have z1 : evalQ O md S z.base z.op = some (u, m) := by
      refine evalQ_mono ag.op (fun a h3 lv s _ b hb => ?_) (fun _ h3 lv s b hb => ?_) (fun h3 => ?_) q3
      · rw [← same (heap0 (hra h3)), ← setT_blk y.dst v]; exact hb
      · rw [← same (heap0 h3), ← setT_blk y.dst v]; exact hb
      · have := same (heap0 (vt _ h3))
        subst this
        cases y.dst <;> exact ⟨rfl, rfl⟩
    have q4' : addNews H m = some (H2.wt H.tmps) := by
      have := addNews_wt (ts := H.tmps) q4
      rwa [setT_wt, wt_wt, wt_self] at this
    obtain ⟨H3, j1, j2⟩ := addNews_comm q2 q4'
    have o2' : quietOk S z.op z.apart = true := by
      rcases zq with ((h | h) | h) | h
      rotate_left 3
      · cases hz : readsAt z.op with
        | some a =>
          unfold quietOk at o2 ⊢
          rw [hz] at o2 ⊢
          simp only at o2 ⊢
          rw [rootsOk_agree (ag.op.mono (readsAt_sub hz)) (zap ag)]; exact o2
        | none =>
          have hy0 : readsAt y.op = none := by simpa using h.1
          have o1k : keyedOk S y.apart = true := by unfold quietOk at o1; rw [hy0] at o1; exact o1
          unfold quietOk; rw [hz]
          refine keyedOk_of fun x hx lv s hp => ?_
          have := List.all_eq_true.1 h.2 x hx
          obtain ⟨c, hc, hs⟩ := List.any_eq_true.1 this
          have := same_eq hs
          subst this
          exact keyedOk_mem o1k hc hp
      · rw [List.isEmpty_iff.1 h]; exact quietOk_nil _
      · obtain ⟨a, ha⟩ := Option.isSome_iff_exists.1 h
        unfold quietOk at o2 ⊢
        rw [ha] at o2 ⊢
        simp only at o2 ⊢
        rw [rootsOk_agree (ag.op.mono (readsAt_sub ha)) (zap ag)]; exact o2
      · have := same (evalQ_none h q1)
        subst this
        have hwt := quietOk_wt (S := H.setT y.dst v) (ts := H.tmps) (op := z.op) (l := z.apart) (by rw [setT_wt, wt_wt, wt_self, ← setT_wt]; exact ag.op) (by rw [setT_wt, wt_wt, wt_self, ← setT_wt]; exact zap ag)
        rw [o2] at hwt
        have e : (H.setT y.dst v).wt H.tmps = H := by rw [setT_wt, wt_wt, wt_self]
        rw [e] at hwt; exact hwt
    refine ⟨_, toQuiet zw (by rw [← guardOf_agree ag.g] at g2; exact g2) o2' z1 j1, ?_⟩
    have t3 := (addNews_tmps j1).1
    have ag2 : Agree S (H3.setT z.dst u) y.reads := by
      rw [setT_wt, t3]; exact fun n hn => (agree_set' (S := S) (S' := H3) i3 n hn)
    have y1 : evalQ O md (H3.setT z.dst u) y.base y.op = some (v, n) := by
      refine evalQ_mono ag2.op (fun a h3 lv s _ b hb => ?_) (fun _ h3 lv s b hb => ?_) (fun h3 => ?_) q1
      · rw [setT_blk]; exact addNews_holds j1 lv s b hb
      · rw [setT_blk]; exact addNews_holds j1 lv s b hb
      · have hm : m = [] := by
          rcases yvk with h | h
          · rw [h3] at h; cases h
          · exact evalQ_none h z1
        subst hm
        cases j1
        cases z.dst <;> exact ⟨rfl, rfl⟩
    have j3 : addNews (H3.setT z.dst u) n = some ((H2.wt H.tmps).wt (dset H3.tmps z.dst u)) := by rw [setT_wt]; exact addNews_wt j2
    have o1' : quietOk (H3.setT z.dst u) y.op y.apart = true := by
      unfold quietOk at o1 ⊢
      cases ha : readsAt y.op with
      | none =>
        rw [ha] at o1
        exact keyedOk_mono (yap ag2) (fun lv s ob hg => by rw [setT_heap]; exact addNews_get j1 hg) o1
      | some a =>
        rw [ha] at o1
        simp only at o1 ⊢
        rw [rootsOk_agree (ag2.op.mono (readsAt_sub ha)) (yap ag2)]; exact o1
    rw [toQuiet yw (by rw [guardOf_agree ag2.g]; exact g1) o1' y1 j3]
    rw [wt_wt, wt_setT, setT_wt]
    have t2 : H2.tmps = dset H.tmps y.dst v := by rw [(addNews_tmps q4).1, setT_wt, wt_tmps]
    rw [t2, t3, ht, dset_comm i2]
  · rw [Bool.and_eq_true] at hs
    obtain ⟨hl, hop⟩ := hs
    cases hra : readsAt y.op with
    | none => simp [underAny, hra] at hl
    | some a =>
      have hm := rd hra
      have yw : (memOf md y.op).w = false := by rw [hm]
      obtain ⟨o1, v, n, H, q1, q2, rfl⟩ := quiet yw e1
      have hn := evalQ_none (by rw [hm]) q1
      subst hn
      cases q2
      have o1r : rootsOk S a y.apart = true := by unfold quietOk at o1; rw [hra] at o1; exact o1
      obtain ⟨u, H2, rfl, hH, hz⟩ := evalOp_char h2
      have ag : Agree (S.setT y.dst v) S z.reads := agz
      have hz' := hz S.tmps (by rw [setT_wt, wt_wt]; exact agree_set i1)
      rw [setT_wt, wt_wt, wt_self] at hz'
      refine ⟨_, hz', ?_⟩
      have hw : writes md z.op = true := by
        cases hzo : z.op <;> rw [hzo] at hop <;> first | rfl | simp at hop
      have e2' : evalI O md z S = some ((H2.wt S.tmps).setT z.dst u) := by
        have gz : guardOf S z.g = some true := by rw [← guardOf_agree ag.g] at g2; exact g2
        unfold evalOp at hz'; rw [gz] at hz'; exact hz'
      unfold evalI at e2'
      rw [if_pos hw] at e2'
      split at e2'
      · rename_i hap
        split at e2'
        · rename_i u' H3 hq
          simp only [Option.some.injEq] at e2'
          obtain ⟨b, hb, hpl, _⟩ := underAny_spec hl hra o1r
          have ag2 : Agree S ((H2.wt S.tmps).setT z.dst u) y.reads := by rw [wt_setT]; exact fun n hn => (agree_set' (S := S) (S' := H2) i3 n hn)
          have y1 : evalQ O md ((H2.wt S.tmps).setT z.dst u) y.base y.op = some (v, []) := by
            refine evalQ_mono ag2.op (fun a' h3 lv s hp b' hb' => ?_) (fun h3 => by rw [hra] at h3; cases h3) (fun h3 => by rw [hm] at h3; cases h3) q1
            rw [hra] at h3; cases h3
            rw [← e2', setT_blk]
            exact evalW_holds hop (apartOk_mem (Bool.and_eq_true _ _ ▸ hap).1 hb (by rw [hpl]; exact points_place hp)) hq b' hb'
          have o1' : quietOk ((H2.wt S.tmps).setT z.dst u) y.op y.apart = true := by
            unfold quietOk; rw [hra]; simp only
            rw [rootsOk_agree (ag2.op.mono (readsAt_sub hra)) (yap ag2)]; exact o1r
          rw [toQuiet yw (by rw [guardOf_agree ag2.g]; exact g1) o1' y1 rfl]
          rw [wt_setT, setT_wt, setT_wt, hH, setT_wt, wt_tmps, wt_tmps, wt_wt, dset_comm i2]
        · cases e2'
      · cases e2'
  · simp only [Bool.and_eq_true, Bool.not_eq_true'] at hs
    obtain ⟨⟨yw, yr⟩, hu⟩ := hs
    cases hra : readsAt z.op with
    | none => simp [underAny, hra] at hu
    | some a =>
      have hm := rd hra
      have zw : (memOf md z.op).w = false := by rw [hm]
      obtain ⟨o1, v, n, H, q1, q2, rfl⟩ := quiet yw e1
      obtain ⟨o2, u, m, H2, q3, q4, rfl⟩ := quiet zw e2
      have hmn := evalQ_none (by rw [hm]) q3
      subst hmn
      cases q4
      have ht := (addNews_tmps q2).1
      have o2r : rootsOk (H.setT y.dst v) a z.apart = true := by unfold quietOk at o2; rw [hra] at o2; exact o2
      obtain ⟨b, hb, hpl, hba⟩ := underAny_spec hu hra o2r
      have o1k : keyedOk S y.apart = true := by
        unfold quietOk at o1
        have : readsAt y.op = none := by simpa using yr
        rw [this] at o1; exact o1
      have hbS : evalX (H.setT y.dst v) b = evalX S b := by
        refine (agree_X (x := b) ?_).symm
        rcases hba with rfl | hba
        · exact agz.op.mono (readsAt_sub hra)
        · exact (zap agz).mono fun n hn => List.mem_flatMap.2 ⟨b, hba, hn⟩
      have z1 : evalQ O md S z.base z.op = some (u, []) := by
        refine evalQ_mono agz.op (fun a' h3 lv s hp b' hb' => ?_) (fun h3 => by rw [hra] at h3; cases h3) (fun h3 => by rw [hm] at h3; cases h3) q3
        rw [hra] at h3; cases h3
        have hpb : placeOf (evalX S b) = some (lv, s) := by rw [← hbS, hpl]; exact points_place hp
        obtain ⟨ob, hob⟩ := keyedOk_mem o1k hb hpb
        rw [setT_blk] at hb'
        unfold St.blk at hb' ⊢
        rw [addNews_get q2 hob] at hb'
        rw [hob]; exact hb'
      have o2' : quietOk S z.op z.apart = true := by
        unfold quietOk; rw [hra]; simp only
        rw [rootsOk_agree (agz.op.mono (readsAt_sub hra)) (zap agz)]; exact o2r
      refine ⟨_, toQuiet zw (by rw [← guardOf_agree agz.g] at g2; exact g2) o2' z1 rfl, ?_⟩
      have ag2 : Agree S (S.setT z.dst u) y.reads := by
        rw [setT_wt]; exact fun n hn => (agree_set' (S := S) (S' := S) i3 n hn)
      have y1 : evalQ O md (S.setT z.dst u) y.base y.op = some (v, n) := by
        refine evalQ_mono ag2.op (fun a h3 lv s _ b hb => by rw [setT_blk]; exact hb) (fun _ h3 lv s b hb => by rw [setT_blk]; exact hb) (fun h3 => by cases z.dst <;> exact ⟨rfl, rfl⟩) q1
      have o1' : quietOk (S.setT z.dst u) y.op y.apart = true := by
        rw [setT_wt]
        rw [quietOk_wt (by rw [← setT_wt]; exact ag2.op) (by rw [← setT_wt]; exact yap ag2)]; exact o1
      have j3 : addNews (S.setT z.dst u) n = some (H.wt (dset S.tmps z.dst u)) := by rw [setT_wt]; exact addNews_wt q2
      rw [toQuiet yw (by rw [guardOf_agree ag2.g]; exact g1) o1' y1 j3]
      have e : H.setT y.dst v = H.wt (dset H.tmps y.dst v) := setT_wt _ _
      rw [wt_setT, e, setT_wt, wt_wt, wt_tmps, ht, dset_comm i2]
  · rw [Bool.and_eq_true] at hs
    obtain ⟨hsa, hu⟩ := hs
    have hwy : writes md y.op = true := by
      cases hyo : y.op <;> rw [hyo] at hsa <;> first | rfl | simp [isSA] at hsa
    obtain ⟨v0, H0, hv0, hH0, hy0⟩ := evalOp_char h1
    unfold evalI at e1
    rw [if_pos hwy] at e1
    split at e1
    rotate_left
    · cases e1
    rename_i hap
    rw [Bool.and_eq_true] at hap
    split at e1
    rotate_left
    · cases e1
    rename_i v H hq
    cases e1
    cases hra : readsAt z.op with
    | none => simp [underAny, hra] at hu
    | some a =>
      have hm := rd hra
      have zw : (memOf md z.op).w = false := by rw [hm]
      obtain ⟨o2, u, m, H2, q3, q4, rfl⟩ := quiet zw e2
      have hmn := evalQ_none (by rw [hm]) q3
      subst hmn
      cases q4
      have o2r : rootsOk (H.setT y.dst v) a z.apart = true := by unfold quietOk at o2; rw [hra] at o2; exact o2
      obtain ⟨b, hb, hpl, hba⟩ := underAny_spec hu hra o2r
      have hbS : evalX (H.setT y.dst v) b = evalX S b := by
        refine (agree_X (x := b) ?_).symm
        rcases hba with rfl | hba
        · exact agz.op.mono (readsAt_sub hra)
        · exact (zap agz).mono fun n hn => List.mem_flatMap.2 ⟨b, hba, hn⟩
      have z1 : evalQ O md S z.base z.op = some (u, []) := by
        refine evalQ_mono agz.op (fun a' h3 lv s hp b' hb' => ?_) (fun h3 => by rw [hra] at h3; cases h3) (fun h3 => by rw [hm] at h3; cases h3) q3
        rw [hra] at h3; cases h3
        have hpb : placeOf (evalX S b) = some (lv, s) := by rw [← hbS, hpl]; exact points_place hp
        obtain ⟨ob, hob⟩ := keyedOk_mem hap.2 hb hpb
        obtain ⟨ob', g1', g2'⟩ := (evalW_sa hsa hq).1 lv s ob hob
        have := g2' (apartOk_mem hap.1 hb hpb)
        subst this
        rw [setT_blk] at hb'
        unfold St.blk at hb' ⊢
        rw [g1'] at hb'
        rw [hob]; exact hb'
      have o2' : quietOk S z.op z.apart = true := by
        unfold quietOk; rw [hra]; simp only
        rw [rootsOk_agree (agz.op.mono (readsAt_sub hra)) (zap agz)]; exact o2r
      refine ⟨_, toQuiet zw (by rw [← guardOf_agree agz.g] at g2; exact g2) o2' z1 rfl, ?_⟩
      rw [hv0]
      rw [setT_wt, hy0 _ (agree_set' i3), wt_setT, setT_wt, setT_wt, hH0, wt_wt, wt_tmps, dset_comm i2]
  · simp only [Bool.and_eq_true] at hs
    obtain ⟨⟨hsa, hmk⟩, hsub⟩ := hs
    have hwy : writes md y.op = true := by
      cases hyo : y.op <;> rw [hyo] at hsa <;> first | rfl | simp [isSA] at hsa
    have zm : memOf md z.op = ⟨false, false, true, false⟩ ∧ readsAt z.op = none := by
      cases hzo : z.op <;> rw [hzo] at hmk <;> first | exact ⟨rfl, rfl⟩ | simp [isMk] at hmk
    unfold evalI at e1
    rw [if_pos hwy] at e1
    split at e1
    rotate_left
    · cases e1
    rename_i hap
    rw [Bool.and_eq_true] at hap
    split at e1
    rotate_left
    · cases e1
    rename_i v H hq
    cases e1
    have hHt := evalW_tmps hq
    obtain ⟨o2, u, m, H2, q3, q4, rfl⟩ := quiet (by rw [zm.1]) e2
    have z1 : evalQ O md S z.base z.op = some (u, m) :=
      evalQ_mono agz.op (fun a' h3 => by rw [zm.2] at h3; cases h3) (fun _ h3 => by rw [zm.1] at h3; cases h3) (fun h3 => by rw [zm.1] at h3; cases h3) q3
    have q4' : addNews H m = some (H2.wt H.tmps) := by
      have := addNews_wt (ts := H.tmps) q4
      rwa [setT_wt, wt_wt, wt_self] at this
    obtain ⟨Y, hY⟩ := news_sub (fun s ob hg => by
      obtain ⟨ob', g1', _⟩ := (evalW_sa hsa hq).1 0 s ob hg
      exact ⟨ob', g1'⟩) q4'
    have hYt := (addNews_tmps hY).1
    have o2' : quietOk S z.op z.apart = true := by
      unfold quietOk; rw [zm.2]
      refine keyedOk_of fun x hx lv s hp => ?_
      obtain ⟨c, hc, hs⟩ := List.any_eq_true.1 (List.all_eq_true.1 hsub x hx)
      have := same_eq hs
      subst this
      exact keyedOk_mem hap.2 hc hp
    refine ⟨_, toQuiet (by rw [zm.1]) (by rw [← guardOf_agree agz.g] at g2; exact g2) o2' z1 hY, ?_⟩
    have hqY := (evalW_sa hsa hq).2 m Y _ hY q4'
    have same : ∀ l, Agree S Y l := fun l n _ => by rw [hYt]
    have ag : Agree Y (Y.wt (dset Y.tmps z.dst u)) y.reads := by
      have := agree_set' (S := Y) (S' := Y) (ts := Y.tmps) (d := z.dst) (v := u) i3
      exact this
    have apY : apartOk Y y.op y.apart = true := by rw [apartOk_tmps hYt]; exact hap.1
    have kyY : keyedOk Y y.apart = true := keyedOk_mono (same _) (fun lv s ob hg => addNews_get hY hg) hap.2
    rw [setT_wt]
    unfold evalOp
    rw [guardOf_wt ag.g, guardOf_agree (same _), g1]
    simp only []
    unfold evalI
    rw [if_pos hwy, apartOk_wt ag.op (yap ag), keyedOk_wt (yap ag), apY, kyY, evalW_wt ag.op hqY]
    simp only [Bool.and_self, if_true]
    have hH2t : H2.tmps = dset S.tmps y.dst v := by rw [(addNews_tmps q4).1, setT_wt, wt_tmps, hHt]
    rw [wt_wt, wt_setT, setT_wt, hH2t, hYt, dset_comm i2]
end
end Go.Ae
