/- More of the machine's operations, run: structs; comparison of structs; rows of literals. -/
import Derived.Test.YtgmfljabhcamlaaAeRun5
namespace Go.Ae
open Go.RowKit
set_option linter.unusedVariables false
set_option linter.unusedSimpArgs false
section
variable {P : Program} {w w0 : World} {M : Nat → Nat → Path → Option Nat} {R : Nat → Prop} {S : St} {g : G} {a : Act} {o : Oper}

theorem run_part {t : TypeId} {inf : TypeInfo} {ag : Bool} {us : Array Value} {off : Nat} (hi : P.info? t = some inf) (hag : aggT P t = some ag) (h1 : ag = true ∨ inf.size = 1) (hl : off + inf.size ≤ us.size) :
    (part t us off).run P w = .ok (if ag then .agg (us.extract off (off + inf.size)) else us.getD off undef) w := by
  have hu : (isAgg t).run P w = .ok ag w := by
    unfold aggT at hag
    cases hd : P.underlying t with
    | none => simp [hd] at hag
    | some d =>
      simp only [isAgg, Sem.run_bind, run_underlying hd, Result.andThen_ok]
      cases d <;> simp [hd] at hag <;> subst hag <;> rfl
  unfold part
  simp only [Sem.run_bind, hu, Result.andThen_ok]
  cases ag with
  | true => simp [run_sizeOf' hi]
  | false =>
    have := h1.resolve_left (by simp)
    have hlt : off < us.size := by omega
    simp [hlt]
theorem goes_field {t : TypeId} {x : Operand} {f : Nat} {fs : Array Field} {fd : Field} {inf : TypeInfo} {ag : Bool} {cs : List AV} {v : AV} (ho : o.op = .field t x f) (ht : P.underlying t = some (.struct fs)) (hf : fs[f]? = some fd) (hi : P.info? fd.type = some inf) (hag : aggT P fd.type = some ag)
    (h1 : ag = true ∨ inf.size = 1) (hW : WRel w0 M R S g w) (hv : VRel S g (stab w0 R) (.agg cs) (a.eval x)) (hl : fd.offset + inf.size ≤ cs.length) (hof : AV.ofCells ag ((cs.drop fd.offset).take inf.size) = some v) : Goes P w0 M R S g a w o S v := by
  obtain ⟨arr, he, hs, hr⟩ := hv.agg_inv
  have hrun : (Instr.field t (a.eval x) f).run P w = .ok (if ag then .agg (arr.extract fd.offset (fd.offset + inf.size)) else arr.getD fd.offset undef) w := by
    rw [he]
    have hp := run_part (P := P) (w := w) (us := arr) (off := fd.offset) hi hag h1 (by omega)
    simp only [Instr.field, Sem.run_bind, run_underlying ht, Result.andThen_ok, hf, asAgg, Sem.run_pure]
    exact hp
  refine goes_same hW (run_of_value (s := Instr.field t (a.eval x) f) (by unfold execOp; simp only [ho]) hrun) ?_
  have hex : (arr.extract fd.offset (fd.offset + inf.size)).size = inf.size := by simp; omega
  have := ofCells_rel (S := S) (g := g) (cell := stab w0 R) (us := arr.extract fd.offset (fd.offset + inf.size)) hof (by rw [hex]; simp; omega) (fun i u hu => by
    have hi' : i < inf.size := by have := (List.getElem?_eq_some_iff.1 hu).1; simp at this; omega
    have hu' : cs[fd.offset + i]? = some u := by simpa [List.getElem?_take, hi'] using hu
    have hlt : fd.offset + i < arr.size := by omega
    have e : (arr.extract fd.offset (fd.offset + inf.size)).getD i undef = arr.getD (fd.offset + i) undef := by
      simp [hlt, hex, hi', show i < min (fd.offset + inf.size) arr.size - fd.offset by omega]
    rw [e]; exact hr _ u hu')
  cases ag with
  | true => exact this
  | false =>
    have h1' := h1.resolve_left (by simp)
    have e : (arr.extract fd.offset (fd.offset + inf.size)).getD 0 undef = arr.getD fd.offset undef := by
      have hlt : fd.offset < arr.size := by omega
      simp [hlt, h1', show 0 < min (fd.offset + 1) arr.size - fd.offset by omega]
    simp only [Bool.false_eq_true, if_false] at this ⊢
    rw [e] at this; exact this

/-! ### '==' of structs -/
theorem eqCells_append : ∀ {k1 k2 : List K3} {vs us : List AV} {r : Bool}, eqCells (k1 ++ k2) vs us = some r → ∃ r1 r2, eqCells k1 (vs.take k1.length) (us.take k1.length) = some r1 ∧ eqCells k2 (vs.drop k1.length) (us.drop k1.length) = some r2 ∧ r = (r1 && r2)
  | [], k2, vs, us, r, h => ⟨true, r, by simp [eqCells], by simpa using h, by simp⟩
  | k :: k1, k2, vs, us, r, h => by
    cases vs with
    | nil => simp [eqCells] at h
    | cons v vs => cases us with
      | nil => simp [eqCells] at h
      | cons u us =>
        simp only [List.cons_append, eqCells] at h
        split at h
        · rename_i x y hx hy
          cases h
          obtain ⟨r1, r2, e1, e2, rfl⟩ := eqCells_append hy
          exact ⟨x && r1, r2, by simp [eqCells, hx, e1], by simpa using e2, by simp [Bool.and_assoc]⟩
        · cases h
theorem eqCells_length : ∀ {ks : List K3} {vs us : List AV} {r : Bool}, eqCells ks vs us = some r → vs.length = ks.length ∧ us.length = ks.length
  | [], [], [], _, _ => ⟨rfl, rfl⟩
  | k :: ks, v :: vs, u :: us, r, h => by
    simp only [eqCells] at h
    split at h
    · rename_i x y hx hy
      obtain ⟨e1, e2⟩ := eqCells_length hy
      exact ⟨by simp [e1], by simp [e2]⟩
    · cases h
  | [], _ :: _, _, _, h => by simp [eqCells] at h
  | [], [], _ :: _, _, h => by simp [eqCells] at h
  | _ :: _, [], _, _, h => by simp [eqCells] at h
  | _ :: _, _ :: _, [], _, h => by simp [eqCells] at h

theorem eqKinds_scal {d : Nat} {t : TypeId} {ks : List K3} (h : eqKinds P d t = some ks) (ha : aggT P t = some false) : (∃ k, P.underlying t = some (.int k) ∧ ks = [.i]) ∨ (P.underlying t = some .bool ∧ ks = [.b]) ∨ (P.underlying t = some .string ∧ ks = [.s]) := by
  cases d with
  | zero => simp [eqKinds] at h
  | succ d =>
    simp only [eqKinds] at h
    unfold aggT at ha
    cases hd : P.underlying t with
    | none => simp [hd] at h
    | some dd => cases dd <;> simp [hd] at h ha <;> simp_all
theorem eqCell_run {cell : Addr → Option Value} {e : Nat} {t : TypeId} {k : K3} {u v : AV} {x y : Value} {r : Bool} (hu : VRel S g cell u x) (hv : VRel S g cell v y) (h : eqCell k u v = some r)
    (ht : (∃ q, P.underlying t = some (.int q) ∧ [k] = [K3.i]) ∨ (P.underlying t = some .bool ∧ [k] = [K3.b]) ∨ (P.underlying t = some .string ∧ [k] = [K3.s])) : (Op.equalIn (e + 1) t x y).run P w = .ok r w := by
  unfold eqCell at h
  rcases ht with ⟨q, h1, h2⟩ | ⟨h1, h2⟩ | ⟨h1, h2⟩ <;> cases h2
  · cases u <;> cases v <;> simp only [eqCell] at h <;> first | (cases h; done) | skip
    split at h
    · rename_i hk; subst hk; cases h; rw [hu.int_inv, hv.int_inv]; exact run_equalIn_int w e t _ q _ _ h1
    · cases h
  · cases u <;> cases v <;> simp only [eqCell] at h <;> first | (cases h; done) | skip
    cases h; rw [hu.bool_inv, hv.bool_inv]; exact run_equalIn_bool' w e t _ _ h1
  · cases u <;> cases v <;> simp only [eqCell] at h <;> first | (cases h; done) | skip
    cases h; rw [hu.str_inv, hv.str_inv]; exact run_equalIn_string w e t _ _ h1

theorem eq_run {cell : Addr → Option Value} : ∀ (d : Nat) (t : TypeId) (ks : List K3) (e : Nat), eqKinds P d t = some ks →
    (∀ u v x y r, aggT P t = some false → VRel S g cell u x → VRel S g cell v y → eqCells ks [u] [v] = some r → (Op.equalIn (d + e) t x y).run P w = .ok r w) ∧
    (∀ vs us xs ys r, aggT P t = some true → VRels S g cell vs xs → VRels S g cell us ys → eqCells ks vs us = some r → (Op.equalIn (d + e) t (.agg xs) (.agg ys)).run P w = .ok r w)
  | 0, t, ks, e, h => by simp [eqKinds] at h
  | d + 1, t, ks, e, h => by
    have e1 : d + 1 + e = (d + e) + 1 := by omega
    rw [e1]
    refine ⟨fun u v x y r ha hu hv hr => ?_, fun vs us xs ys r ha hvs hus hr => ?_⟩
    · have hs := eqKinds_scal h ha
      have hk : ∃ k, ks = [k] := by rcases hs with ⟨_, _, rfl⟩ | ⟨_, rfl⟩ | ⟨_, rfl⟩ <;> exact ⟨_, rfl⟩
      obtain ⟨k, rfl⟩ := hk
      simp only [eqCells] at hr
      split at hr
      · rename_i x1 y1 hx1 hy1
        cases hy1; cases hr
        simp only [Bool.and_true]
        exact eqCell_run hu hv hx1 hs
      · cases hr
    · simp only [eqKinds] at h
      cases hd : P.underlying t with
      | none => simp [hd] at h
      | some dd =>
        cases dd
        case struct fs =>
          simp only [hd] at h
          split at h
          · cases h
          · rename_i hst
            have hfs : P.fieldsOf t = fs := by simp [Program.fieldsOf, hd]
            rw [run_equalIn_agg w (d + e) t xs ys (by rw [hfs]; exact hd) (by simpa using hst), hfs]
            have key : ∀ (l : List Field) (off : Nat) (ks : List K3) (r : Bool), eqFieldsK P (eqKinds P d) off l = some ks → eqCells ks (vs.drop off) (us.drop off) = some r → (Op.eqFields (d + e) xs ys l).run P w = .ok r w := by
              intro l
              induction l with
              | nil =>
                intro off ks r hk hr
                simp [eqFieldsK] at hk; subst hk
                have : r = true := by
                  generalize vs.drop off = v1 at hr
                  generalize us.drop off = u1 at hr
                  cases v1 <;> cases u1 <;> simp [eqCells] at hr
                  exact hr
                subst this; rfl
              | cons f l ih =>
                intro off ks r hk hr
                simp only [eqFieldsK] at hk
                split at hk
                · rename_i hf
                  split at hk
                  · rename_i k1 i ag g1 g2 g3
                    split at hk
                    · rename_i hsz
                      split at hk
                      · rename_i k2 hk2
                        cases hk
                        obtain ⟨r1, r2, q1, q2, rfl⟩ := eqCells_append hr
                        simp only [hsz.1, List.drop_drop] at q2
                        rw [hsz.1] at q1
                        have hl1 := (eqCells_length q1).1
                        have hl2 := (eqCells_length q1).2
                        rw [List.length_take, List.length_drop] at hl1 hl2
                        have hsz1 := hsz.1
                        have hsz3 := hsz.2.2
                        have hx : off + i.size ≤ xs.size := by rw [← hvs.1]; omega
                        have hy : off + i.size ≤ ys.size := by rw [← hus.1]; omega
                        have ih' := ih (off + i.size) k2 r2 hk2 q2
                        have hpx := run_part (P := P) (w := w) (us := xs) (off := f.offset) g2 g3 hsz.2.1 (by rw [hf.1]; exact hx)
                        have hpy := run_part (P := P) (w := w) (us := ys) (off := f.offset) g2 g3 hsz.2.1 (by rw [hf.1]; exact hy)
                        obtain ⟨s1, s2⟩ := eq_run (cell := cell) d f.type k1 e g1
                        have heq : (Op.equalIn (d + e) f.type (if ag then .agg (xs.extract f.offset (f.offset + i.size)) else xs.getD f.offset undef) (if ag then .agg (ys.extract f.offset (f.offset + i.size)) else ys.getD f.offset undef)).run P w = .ok r1 w := by
                          rw [hf.1]
                          cases ag with
                          | true =>
                            refine s2 _ _ _ _ r1 g3 ⟨?_, fun j u hu => ?_⟩ ⟨?_, fun j u hu => ?_⟩ q1
                            · simp; omega
                            · have hj : j < i.size := by have := (List.getElem?_eq_some_iff.1 hu).1; simp at this; omega
                              have hu' : vs[off + j]? = some u := by simpa [List.getElem?_take, hj] using hu
                              have hlt : off + j < xs.size := by omega
                              have e2 : (xs.extract off (off + i.size)).getD j undef = xs.getD (off + j) undef := by
                                simp [hlt, show j < min (off + i.size) xs.size - off by omega]
                              rw [e2]; exact hvs.2 _ u hu'
                            · simp; omega
                            · have hj : j < i.size := by have := (List.getElem?_eq_some_iff.1 hu).1; simp at this; omega
                              have hu' : us[off + j]? = some u := by simpa [List.getElem?_take, hj] using hu
                              have hlt : off + j < ys.size := by omega
                              have e2 : (ys.extract off (off + i.size)).getD j undef = ys.getD (off + j) undef := by
                                simp [hlt, show j < min (off + i.size) ys.size - off by omega]
                              rw [e2]; exact hus.2 _ u hu'
                          | false =>
                            have hs1 := hsz.2.1.resolve_left (by simp)
                            have hv0 : vs.drop off = vs[off]'(by omega) :: vs.drop (off + 1) := List.drop_eq_getElem_cons _
                            have hu0 : us.drop off = us[off]'(by omega) :: us.drop (off + 1) := List.drop_eq_getElem_cons _
                            rw [hs1, hv0, hu0] at q1
                            simp only [List.take_succ_cons, List.take_zero] at q1
                            exact s1 _ _ _ _ r1 g3 (hvs.2 off _ (List.getElem?_eq_getElem _)) (hus.2 off _ (List.getElem?_eq_getElem _)) q1
                        simp only [Op.eqFields, ne_eq, hf.2, not_false_eq_true, if_true, Sem.run_bind, hpx, hpy, Result.andThen_ok, heq]
                        cases r1
                        · simp
                        · simp [ih']
                      · cases hk
                    · cases hk
                  · cases hk
                · cases hk
            exact key fs.toList 0 ks r h (by simpa using hr)
        all_goals simp [aggT, hd] at ha

theorem goes_eqv {op : BinOp} {t yt : TypeId} {x y : Operand} {u v : AV} {ag : Bool} {ks : List K3} {r : Bool} (hop : op = .eql ∨ op = .neq) (ho : o.op = .binOp op t x y yt) (hk : eqFlat P t = some (ag, ks)) (hW : WRel w0 M R S g w) (hu : VRel S g (stab w0 R) u (a.eval x)) (hv : VRel S g (stab w0 R) v (a.eval y))
    (he : evalEq ag ks u v = some r) : Goes P w0 M R S g a w o S (.bool (if (match op with | .neq => true | _ => false) then !r else r)) := by
  suffices h : (eqGuard op t x y (a.eval x) (a.eval y)).run P w = .ok () w ∧ (Op.equalIn 10000 t (a.eval x) (a.eval y)).run P w = .ok r w ∧ ((∃ xs ys, a.eval x = .agg xs ∧ a.eval y = .agg ys) ∨ ∃ b c, a.eval x = .bool b ∧ a.eval y = .bool c) by
    obtain ⟨h1, h2, h3⟩ := h
    refine goes_same hW (run_of_value (s := do eqGuard op t x y (a.eval x) (a.eval y); binOp op t (a.eval x) (a.eval y)) (by unfold execOp; simp only [ho]) (cv := .bool (if (match op with | .neq => true | _ => false) then !r else r)) ?_) (.bool _)
    simp only [Sem.run_bind, h1, Result.andThen_ok]
    rcases h3 with ⟨xs, ys, e1, e2⟩ | ⟨b, c, e1, e2⟩
    · rw [e1, e2] at h2 ⊢
      rcases hop with rfl | rfl
      · rw [run_eql_struct, h2]; rfl
      · rw [run_neq_struct, h2]; rfl
    · rw [e1, e2] at h2 ⊢
      rcases hop with rfl | rfl <;> simp [binOp, Op.equal, Op.maxDepth, h2]
  unfold eqFlat at hk
  cases hd : P.underlying t with
  | none => simp [hd] at hk
  | some dd =>
    cases dd
    case bool =>
      simp only [hd, Option.some.injEq, Prod.mk.injEq] at hk; obtain ⟨rfl, rfl⟩ := hk
      cases u <;> cases v <;> simp [evalEq, eqCells, eqCell] at he
      subst he
      rw [hu.bool_inv, hv.bool_inv]
      exact ⟨by rcases hop with rfl | rfl <;> simp [eqGuard], run_equalIn_bool' w 9999 t _ _ hd, .inr ⟨_, _, rfl, rfl⟩⟩
    case struct fs =>
      simp only [hd] at hk
      split at hk
      · cases hk
      · rename_i hg
        simp only [Option.map_eq_some_iff, Prod.mk.injEq] at hk
        obtain ⟨ks', hk, rfl, rfl⟩ := hk
        have hagg : aggT P t = some true := by simp [aggT, hd]
        have : ∃ cs ds, u = .agg cs ∧ v = .agg ds ∧ eqCells ks' cs ds = some r := by
          unfold evalEq at he
          simp only [if_true] at he
          split at he
          · exact ⟨_, _, rfl, rfl, he⟩
          · cases he
        obtain ⟨cs, ds, rfl, rfl, hc⟩ := this
        obtain ⟨xs, e1, l1, r1⟩ := hu.agg_inv
        obtain ⟨ys, e2, l2, r2⟩ := hv.agg_inv
        rw [e1, e2]
        refine ⟨run_eqGuard_agg w op t x y xs ys (by simpa using hg), ?_, .inl ⟨xs, ys, rfl, rfl⟩⟩
        exact (eq_run 12 t ks' 9988 hk).2 cs ds xs ys r hagg ⟨l1, r1⟩ ⟨l2, r2⟩ hc
    all_goals simp [hd] at hk
end
end Go.Ae
