/- A region of no given order comes to what the evaluator's order comes to. -/
import Derived.Test.YtgmfljabhcamlaaAeSwap3
namespace Go.Ae
open Go.RowKit
set_option linter.unusedVariables false
set_option linter.unusedSimpArgs false
section
variable {P : Program} {w0 : World} {M : Nat → Nat → Path → Option Nat} {R : Nat → Prop} {S0 : St} {g0 : G}

theorem move_front {O : Oracle} {md : Nat → Mode} {z : IOp} : ∀ (p q : List IOp) {S S' : St}, (∀ y ∈ p, swapOk md y z = true) → evalOps O md (p ++ z :: q) S = some S' → ∃ S3, evalOp O md z S = some S3 ∧ evalOps O md (p ++ q) S3 = some S'
  | [], q, S, S', hp, h => by
    simp only [List.nil_append, evalOps] at h
    split at h
    · rename_i S3 h3; exact ⟨S3, h3, h⟩
    · cases h
  | y :: p, q, S, S', hp, h => by
    simp only [List.cons_append, evalOps] at h
    split at h
    · rename_i S1 h1
      obtain ⟨S2, k1, k2⟩ := move_front p q (fun x hx => hp x (List.mem_cons_of_mem _ hx)) h
      obtain ⟨S3, j1, j2⟩ := swap_ok (hp y List.mem_cons_self) h1 k1
      refine ⟨S3, j1, ?_⟩
      simp only [List.cons_append, evalOps]
      rw [j2]; exact k2
    · cases h

theorem preAll_take : ∀ (l : List Oper) (acc : List Nat), (preAll l acc).take acc.length = acc
  | [], acc => by simp [preAll]
  | o :: r, acc => by
    have := preAll_take r (acc ++ [pre acc o])
    simp only [preAll]
    have h2 := congrArg (List.take acc.length) this
    rw [List.take_take] at h2
    simp only [List.length_append, List.length_singleton] at h2
    rw [Nat.min_eq_left (by omega)] at h2
    rw [h2]; simp
theorem preAll_at : ∀ (l : List Oper) (acc : List Nat) (i : Nat) (o : Oper), l[i]? = some o → (preAll l acc).getD (acc.length + i) 0 = pre ((preAll l acc).take (acc.length + i)) o
  | [], acc, i, o, h => by simp at h
  | x :: r, acc, 0, o, h => by
    simp only [List.getElem?_cons_zero, Option.some.injEq] at h
    subst h
    have h1 := preAll_take r (acc ++ [pre acc x])
    have h2 := preAll_take (x :: r) acc
    simp only [Nat.add_zero]
    rw [h2]
    simp only [preAll]
    have h3 : ((preAll r (acc ++ [pre acc x])).take (acc ++ [pre acc x]).length)[acc.length]? = (acc ++ [pre acc x])[acc.length]? := by rw [h1]
    simp only [List.length_append, List.length_singleton] at h3
    rw [List.getElem?_take_of_lt (by omega)] at h3
    simp only [List.getD_eq_getElem?_getD]
    rw [h3]; simp
  | x :: r, acc, i + 1, o, h => by
    have := preAll_at r (acc ++ [pre acc x]) i o (by simpa using h)
    simp only [List.length_append, List.length_singleton] at this
    simp only [preAll]
    rw [show acc.length + (i + 1) = acc.length + 1 + i by omega]
    exact this

theorem pre_bit {acc : List Nat} {o : Oper} {y : Nat} : (pre acc o).testBit y = true ↔ ∃ e ∈ o.after.toList, Region.binds .any e = true ∧ (e.on = y ∨ (acc.getD e.on 0).testBit y = true) := by
  unfold pre
  generalize o.after.toList = l
  induction l with
  | nil => simp
  | cons e r ih =>
    simp only [List.foldr_cons]
    by_cases hb : Region.binds .any e = true
    · rw [if_pos hb]
      simp only [Nat.testBit_or, Bool.or_eq_true]
      rw [ih]
      have : ((1 <<< e.on).testBit y = true) ↔ e.on = y := by
        rw [Nat.one_shiftLeft, Nat.testBit_two_pow]; simp
      rw [this]
      constructor
      · rintro (⟨e', h1, h2⟩ | h)
        · exact ⟨e', List.mem_cons_of_mem _ h1, h2⟩
        · exact ⟨e, List.mem_cons_self, hb, h⟩
      · rintro ⟨e', h1, h2, h3⟩
        rcases List.mem_cons.1 h1 with rfl | h1
        · exact .inr h3
        · exact .inl ⟨e', h1, h2, h3⟩
    · rw [if_neg hb, ih]
      constructor
      · rintro ⟨e', h1, h2⟩; exact ⟨e', List.mem_cons_of_mem _ h1, h2⟩
      · rintro ⟨e', h1, h2, h3⟩
        rcases List.mem_cons.1 h1 with rfl | h1
        · exact absurd h2 hb
        · exact ⟨e', h1, h2, h3⟩

theorem bit_spec {ops : Array Oper} {b : List Nat} {o : Oper} {x : Nat} (hb : preAll ops.toList [] = b) (ho : ops[x]? = some o) {y : Nat} :
    ((b.getD x 0).testBit y = true → ∃ e ∈ o.after.toList, Region.binds .any e = true ∧ (e.on = y ∨ (b.getD e.on 0).testBit y = true)) ∧
    (∀ e ∈ o.after.toList, Region.binds .any e = true → (b.getD x 0).testBit e.on = true) := by
  have h := preAll_at ops.toList [] x o (by simpa using ho)
  simp only [List.length_nil, Nat.zero_add] at h
  rw [hb] at h
  refine ⟨fun hbit => ?_, fun e he hbe => ?_⟩
  · rw [h, pre_bit] at hbit
    obtain ⟨e, h1, h2, h3⟩ := hbit
    refine ⟨e, h1, h2, h3.imp_right fun h4 => ?_⟩
    simp only [List.getD_eq_getElem?_getD, List.getElem?_take] at h4 ⊢
    split at h4
    · exact h4
    · simp at h4
  · rw [h, pre_bit]
    exact ⟨e, he, hbe, .inl rfl⟩

theorem cIxs_mem {ops : Array Oper} {id : Nat} {l : List IOp} (h : cIxs P ops id l) (o : IOp) (ho : o ∈ l) : (ops[o.ix]?).bind (cOp P ops id o.ix) = some o.bare :=
  List.map_inj_left.1 h o ho

structure DInv (P : Program) (md : Nat → Mode) (ops : Array Oper) (id : Nat) (b : List Nat) (listed : Array Bool) (l : List IOp) : Prop where
  size : listed.size = ops.size
  comp : ∀ o ∈ l, (ops[o.ix]?).bind (cOp P ops id o.ix) = some o.bare
  ok : drawOk md b l = true
  un : ∀ i, i < ops.size → (listed.getD i false = false ↔ ∃ o ∈ l, o.ix = i)
  cl : ∀ x y, listed.getD x false = true → (b.getD x 0).testBit y = true → listed.getD y false = true

theorem drawOk_split {md : Nat → Mode} {b : List Nat} {z : IOp} : ∀ {p q : List IOp}, drawOk md b (p ++ z :: q) = true →
    drawOk md b (p ++ q) = true ∧ (∀ y ∈ p, (b.getD z.ix 0).testBit y.ix = true ∨ swapOk md y z = true) ∧ (∀ y ∈ p ++ q, y.ix ≠ z.ix) ∧ (b.getD z.ix 0).testBit z.ix = false ∧ (∀ y ∈ q, (b.getD z.ix 0).testBit y.ix = false)
  | [], q, h => by
    simp only [List.nil_append, drawOk, Bool.and_eq_true, List.all_eq_true] at h ⊢
    refine ⟨h.2, fun y hy => by simp at hy, fun y hy => ?_, by simpa using h.1.1, fun y hy => ?_⟩
    · have := (h.1.2 y hy).1.1
      intro e; rw [e] at this; simp at this
    · have := (h.1.2 y hy).1.2; simpa using this
  | x :: p, q, h => by
    simp only [List.cons_append, drawOk, Bool.and_eq_true, List.all_eq_true] at h ⊢
    obtain ⟨k1, k2, k3, k4, k5⟩ := drawOk_split h.2
    have hz := h.1.2 z (by simp)
    refine ⟨⟨⟨h.1.1, fun y hy => h.1.2 y (by simp only [List.mem_append, List.mem_cons] at hy ⊢; rcases hy with h | h; exact .inl h; exact .inr (.inr h))⟩, k1⟩, fun y hy => ?_, fun y hy => ?_, k4, k5⟩
    · rcases List.mem_cons.1 hy with rfl | hy
      · simpa using hz.2
      · exact k2 y hy
    · rcases List.mem_cons.1 hy with rfl | hy
      · have := hz.1.1; intro e; rw [e] at this; simp at this
      · exact k3 y hy

theorem ready_mem {ops : Array Oper} {listed : Array Bool} {i : Nat} : i ∈ Region.ready .any ops listed ↔ ∃ o, ops[i]? = some o ∧ listed.getD i true = false ∧ ∀ e ∈ o.after.toList, Region.binds .any e = true → listed.getD e.on false = true := by
  unfold Region.ready
  simp only [List.mem_filter, List.mem_range, Bool.and_eq_true, Bool.not_eq_true']
  constructor
  · rintro ⟨h1, h2, h3⟩
    rw [Array.getElem?_eq_getElem h1] at h3
    simp only [Option.map_some, Option.getD_some, Array.all_eq_true_iff_forall_mem] at h3
    refine ⟨ops[i], Array.getElem?_eq_getElem h1, h2, fun e he hb => ?_⟩
    have := h3 e (by simpa using he)
    rw [hb] at this
    simpa using this
  · rintro ⟨o, h1, h2, h3⟩
    obtain ⟨hlt, rfl⟩ := Array.getElem?_eq_some_iff.1 h1
    refine ⟨hlt, h2, ?_⟩
    rw [h1]
    simp only [Option.map_some, Option.getD_some, Array.all_eq_true_iff_forall_mem]
    intro e he
    by_cases hb : Region.binds .any e = true
    · rw [h3 e (by simpa using he) hb]; simp
    · simp [hb]

theorem draw_any {md : Nat → Mode} {O : Oracle} (hO : OracleFull P O) (hR : RdW w0 M R) {id : Nat} {ops : Array Oper} {b : List Nat} (hb : preAll ops.toList [] = b) (hlt : ∀ x ∈ b, x < 2 ^ ops.size) {Q : Exit → Act → World → Prop} {S' : St} (hQ : ∀ a' w' g', Rel w0 M R S0 g0 S' g' a' w' → Q .normal a' w') :
    ∀ (fuel : Nat) (l : List IOp) (listed : Array Bool) (S : St) (g : G) (a : Act) (w : World), l.length = fuel → DInv P md ops id b listed l → Rel w0 M R S0 g0 S g a w → evalOps O md l S = some S' → wpAny P .any ops Q fuel listed a w := by
  have getD_eq : ∀ (listed : Array Bool) (i : Nat), i < ops.size → listed.size = ops.size → listed.getD i true = listed.getD i false := fun listed i hi hs => by
    have : i < listed.size := by omega
    simp [Array.getD, this]
  intro fuel
  induction fuel with
  | zero =>
    intro l listed S g a w hl hI h he
    have : l = [] := List.length_eq_zero_iff.1 hl
    subst this
    simp only [evalOps, Option.some.injEq] at he
    subst he
    refine ⟨?_, hQ a w g h⟩
    apply List.eq_nil_iff_forall_not_mem.2
    intro i hi
    obtain ⟨o, h1, h2, _⟩ := ready_mem.1 hi
    obtain ⟨hlt', _⟩ := Array.getElem?_eq_some_iff.1 h1
    rw [getD_eq _ _ hlt' hI.size] at h2
    obtain ⟨o', ho', _⟩ := (hI.un i hlt').1 h2
    simp at ho'
  | succ fuel ih =>
    intro l listed S g a w hl hI h he
    refine ⟨fun hnil => ?_, fun i hi => ?_⟩
    · exfalso
      cases l with
      | nil => simp at hl
      | cons x r =>
        have hc := hI.comp x List.mem_cons_self
        cases ho : ops[x.ix]? with
        | none => simp [ho] at hc
        | some o =>
          obtain ⟨hlt', _⟩ := Array.getElem?_eq_some_iff.1 ho
          obtain ⟨_, _, k3, k4, k5⟩ := drawOk_split (p := []) (q := r) hI.ok
          have : x.ix ∈ Region.ready .any ops listed := by
            refine ready_mem.2 ⟨o, ho, ?_, fun e he' hbe => ?_⟩
            · rw [getD_eq _ _ hlt' hI.size]
              exact (hI.un _ hlt').2 ⟨x, List.mem_cons_self, rfl⟩
            · have hbit := (bit_spec hb ho (y := 0)).2 e he' hbe
              have hon : e.on < ops.size := by
                have h1 := Nat.ge_two_pow_of_testBit hbit
                have h2 : b.getD x.ix 0 < 2 ^ ops.size := by
                  rw [List.getD_eq_getElem?_getD]
                  cases hg : b[x.ix]? with
                  | none => exact Nat.two_pow_pos _
                  | some v => exact hlt v (List.mem_of_getElem? hg)
                exact (Nat.pow_lt_pow_iff_right (by decide : 1 < 2)).1 (Nat.lt_of_le_of_lt h1 h2)
              cases hL : listed.getD e.on false with
              | true => rfl
              | false =>
                obtain ⟨o', h1, h2⟩ := (hI.un _ hon).1 hL
                rcases List.mem_cons.1 h1 with rfl | h1
                · rw [h2] at k4; rw [h2, k4] at hbit; cases hbit
                · have := k5 o' h1; rw [h2, hbit] at this; cases this
          rw [hnil] at this; simp at this
    · obtain ⟨o, ho, h2, h3⟩ := ready_mem.1 hi
      obtain ⟨hlt', _⟩ := Array.getElem?_eq_some_iff.1 ho
      rw [getD_eq _ _ hlt' hI.size] at h2
      obtain ⟨z, hz, rfl⟩ := (hI.un i hlt').1 h2
      obtain ⟨p, q, rfl⟩ := List.append_of_mem hz
      obtain ⟨k1, k2, k3, k4, k5⟩ := drawOk_split hI.ok
      -- what z must follow is done
      have done : ∀ y, (b.getD z.ix 0).testBit y = true → listed.getD y false = true := fun y hy => by
        obtain ⟨e, h4, h5, h6⟩ := (bit_spec hb ho (y := y)).1 hy
        have := h3 e h4 h5
        rcases h6 with h6 | h6
        · rw [← h6]; exact this
        · exact hI.cl e.on y this h6
      have hsw : ∀ y ∈ p, swapOk md y z = true := fun y hy => by
        rcases k2 y hy with h | h
        · have h4 := done _ h
          have hc := hI.comp y (by simp [hy])
          have hylt : y.ix < ops.size := by
            cases hoy : ops[y.ix]? with
            | none => simp [hoy] at hc
            | some o => exact (Array.getElem?_eq_some_iff.1 hoy).1
          have := (hI.un y.ix hylt).2 ⟨y, by simp [hy], rfl⟩
          rw [h4] at this; cases this
        · exact h
      obtain ⟨S3, e1, e2⟩ := move_front p q hsw he
      have hc := hI.comp z hz
      rw [ho] at hc
      refine evalOp_wp (g := g) (S := S) hO ho hc hR h e1 _ Q fun a' w' g' h' => ?_
      refine ih (p ++ q) _ S3 g' a' w' (by simp at hl ⊢; omega) ⟨by simp [hI.size], fun o ho => hI.comp o (by simp only [List.mem_append, List.mem_cons] at ho ⊢; rcases ho with h | h; exact .inl h; exact .inr (.inr h)), k1, fun i hi => ?_, fun x y hx hy => ?_⟩ h' e2
      · have hsz : z.ix < listed.size := by rw [hI.size]; exact hlt'
        by_cases hiz : z.ix = i
        · subst hiz
          constructor
          · intro hf
            simp [Array.getD, hsz] at hf
          · rintro ⟨o', h4, h5⟩; exact absurd h5 (k3 o' h4)
        · have e3 : (listed.setIfInBounds z.ix true).getD i false = listed.getD i false := by
            simp [Array.getElem?_setIfInBounds_ne hiz]
          rw [e3, hI.un i hi]
          constructor
          · rintro ⟨o', h4, h5⟩
            refine ⟨o', ?_, h5⟩
            simp only [List.mem_append, List.mem_cons] at h4 ⊢
            rcases h4 with h4 | rfl | h4
            · exact .inl h4
            · exact absurd h5 hiz
            · exact .inr h4
          · rintro ⟨o', h4, h5⟩
            refine ⟨o', ?_, h5⟩
            simp only [List.mem_append, List.mem_cons] at h4 ⊢
            rcases h4 with h4 | h4
            · exact .inl h4
            · exact .inr (.inr h4)
      · have mono : ∀ y, listed.getD y false = true → (listed.setIfInBounds z.ix true).getD y false = true := fun y hy => by
          by_cases hyz : z.ix = y
          · subst hyz
            have hsz : z.ix < listed.size := by rw [hI.size]; exact hlt'
            simp [Array.getD, hsz]
          · simp only [Array.getD_eq_getD_getElem?] at hy ⊢
            rw [Array.getElem?_setIfInBounds_ne hyz]; exact hy
        by_cases hxz : z.ix = x
        · subst hxz; exact mono y (done y hy)
        · have e3 : listed.getD x false = true := by
            simp only [Array.getD_eq_getD_getElem?] at hx ⊢
            rw [Array.getElem?_setIfInBounds_ne hxz] at hx; exact hx
          exact mono y (hI.cl x y e3 hy)

theorem draw_wp {md : Nat → Mode} {O : Oracle} (hm : P.follows .mixedOrders = true) (hO : OracleFull P O) (hR : RdW w0 M R) : DrawWp P md O w0 M R S0 g0 := by
  intro id ops l b S g a w S' Q hix hb hd hc h he hQ
  refine wp_region_any hm ?_
  unfold coverOk at hc
  simp only [Bool.and_eq_true, beq_iff_eq, List.all_eq_true, List.any_eq_true, List.mem_range, decide_eq_true_eq] at hc
  obtain ⟨⟨c1, c2⟩, c3⟩ := hc
  refine draw_any hO hR hb c2 hQ ops.size l _ S g a _ c1 ⟨by simp, cIxs_mem hix, hd, fun i hi => ?_, fun x y hx hy => ?_⟩ ⟨⟨h.wrel.os, h.wrel.tape, h.wrel.output, h.wrel.size, h.wrel.keep, h.wrel.rng, h.wrel.fresh, h.wrel.ext, h.wrel.inj, fun lv s b p ys hb hn => h.wrel.cont lv s b p ys hb hn⟩, h.ext, h.trel⟩ he
  · constructor
    · intro _; exact c3 i hi
    · intro _; simp [Array.getElem?_replicate, hi]
  · exfalso
    simp [Array.getElem?_replicate] at hx
    split at hx <;> simp at hx

theorem call_ok {p : Prog} (hp : ProgOk P p) (hm : P.follows .mixedOrders = true) (n : Nat) : OracleFull P (call p n) :=
  call_full hp (fun O w0 M R S0 g0 hO hR => draw_wp hm hO hR) n
end
end Go.Ae
