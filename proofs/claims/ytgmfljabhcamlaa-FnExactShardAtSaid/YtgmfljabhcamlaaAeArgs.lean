/- What comes in, read from its types: the evaluator's arguments and what they are. -/
import Derived.Test.YtgmfljabhcamlaaAeDraw
import Derived.ChangeArms
import Derived.OpenShut
import Derived.SizedLaws
import Derived.ChangeOld
import Derived.Carry
namespace Go.Ae
open Go.RowKit Go.ChangeShapes
set_option linter.unusedVariables false
set_option linter.unusedSimpArgs false

/-- A cell's kind. -/
inductive CS where
  | int (k : IntKind)
  | bool
  | str
  | sl (bytes : Nat) (es : List CS)
  deriving Inhabited
def CS.scal : CS → Bool
  | .sl .. => false
  | _ => true

mutual
inductive Fits : CS → AV → Prop
  | int {k : IntKind} {n : Int} : (Lit.int k n).wf = true → Fits (.int k) (.int k n)
  | bool (b : Bool) : Fits .bool (.bool b)
  | str {s : ByteArray} : s.size ≤ reachBytes → Fits .str (.str s)
  | sl {bytes : Nat} {es : List CS} {xs : List (List AV)} : xs.length * bytes ≤ reachBytes → (∀ r ∈ xs, FitsAll es r) → Fits (.sl bytes es) (.rd (es.all CS.scal) xs)
inductive FitsAll : List CS → List AV → Prop
  | nil : FitsAll [] []
  | cons {c : CS} {cs : List CS} {v : AV} {vs : List AV} : Fits c v → FitsAll cs vs → FitsAll (c :: cs) (v :: vs)
end

def fieldsOf (P : Program) (rec : TypeId → Option (List CS)) : Nat → List Field → Option (List CS)
  | _, [] => some []
  | off, f :: r => if f.offset = off then match rec f.type with
      | some cs => if cs.length = P.cellsOf f.type then match fieldsOf P rec (off + cs.length) r with
          | some l => some (cs ++ l)
          | none => none
        else none
      | none => none
    else none
def shapeOf (P : Program) : Nat → TypeId → Option (List CS)
  | 0, _ => none
  | d + 1, t => match P.underlying t with
    | some .bool => some [.bool]
    | some (.int k) => some [.int k]
    | some .string => some [.str]
    | some (.slice e) => match shapeOf P d e with
      | some es => if es.length = P.cellsOf e then some [.sl (P.bytesOf e) es] else none
      | none => none
    | some (.struct fs) => match fieldsOf P (shapeOf P d) 0 fs.toList with
      | some l => if l.length = P.cellsOf t then some l else none
      | none => none
    | _ => none

theorem FitsAll.len : ∀ {cs : List CS} {vs : List AV}, FitsAll cs vs → vs.length = cs.length
  | [], _, .nil => rfl
  | _ :: _, _, .cons _ h => by simp [h.len]
theorem FitsAll.append : ∀ {cs ds : List CS} {vs us : List AV}, FitsAll cs vs → FitsAll ds us → FitsAll (cs ++ ds) (vs ++ us)
  | _, _, _, _, .nil, h => h
  | _, _, _, _, .cons h k, h' => .cons h (k.append h')
theorem Fits.scal {c : CS} {v : AV} (h : Fits c v) (hc : c.scal = true) : v.scal = true := by
  cases h <;> first | rfl | simp [CS.scal] at hc
theorem FitsAll.scal : ∀ {cs : List CS} {vs : List AV}, FitsAll cs vs → cs.all CS.scal = true → ∀ v ∈ vs, v.scal = true
  | _, _, .nil, _, v, hv => by simp at hv
  | _, _, .cons h k, hc, v, hv => by
    simp only [List.all_cons, Bool.and_eq_true] at hc
    rcases List.mem_cons.1 hv with rfl | hv
    · exact h.scal hc.1
    · exact k.scal hc.2 v hv
/-- Cells of scalars. -/
theorem Rd.inv_scal {cell : Addr → Option Value} {v : AV} {cv : Value} (h : v.scal = true) (hr : Rd cell v cv) : True := trivial

section
variable {H : Type} {enc : TypeId × Value → H} {P : Program} {W : World} {spare : Nat → Bool} {held : Bool} {cell : Addr → Option Value}

theorem weightsAll_mem {e : TypeId} {y : DataW H} {m : Nat} : ∀ {l : List (DataW H)}, y ∈ l → m ∈ y.weights P e → m ∈ DataW.weightsAll P e l
  | [], h, _ => by simp at h
  | z :: l, h, hm => by
    simp only [DataW.weightsAll, List.mem_append]
    rcases List.mem_cons.1 h with rfl | h
    · exact .inl hm
    · exact .inr (weightsAll_mem h hm)

theorem open_shape (hcell : ∀ a v, W.cell? a = some v → cell a = some v) : ∀ (d : Nat) (t : TypeId) (fuel : Nat) (vals : List Value) (x : DataW H × List MemPlace) (cs : List CS),
    shapeOf P d t = some cs → DataW.trod enc P W 0 spare held fuel t vals = some x → (∀ n ∈ x.1.weights P t, n ≤ reachBytes) →
    ∃ avs, FitsAll cs avs ∧ avs.length = vals.length ∧ ∀ i v, avs[i]? = some v → Rd cell v (vals.getD i undef) := by
  intro d
  induction d with
  | zero => intro t fuel vals x cs hs; simp [shapeOf] at hs
  | succ d ih =>
    intro t fuel vals x cs hs hx hw
    unfold shapeOf at hs
    split at hs
    · rename_i ht
      cases hs
      obtain ⟨b, rfl, _⟩ := DataW.trod_bool ht hx
      refine ⟨[.bool b], .cons (.bool b) .nil, rfl, fun i v hi => ?_⟩
      cases i with
      | zero => simp at hi; subst hi; exact .bool b
      | succ i => simp at hi
    · rename_i k ht
      cases hs
      obtain ⟨n, rfl, _, hwf⟩ := DataW.trod_int ht hx
      refine ⟨[.int k n], .cons (.int hwf) .nil, rfl, fun i v hi => ?_⟩
      cases i with
      | zero => simp at hi; subst hi; exact .int k n
      | succ i => simp at hi
    · rename_i ht
      cases hs
      obtain ⟨s, rfl, rfl, hsz⟩ := DataW.trod_string ht hx
      have : s.size ≤ reachBytes := by
        have := hw s.data.toList.length (by simp [DataW.weights])
        simpa using this
      refine ⟨[.str s], .cons (.str this) .nil, rfl, fun i v hi => ?_⟩
      cases i with
      | zero => simp at hi; subst hi; exact .str s
      | succ i => simp at hi
    · rename_i e ht
      split at hs
      · rename_i es hes
        split at hs
        · rename_i hlen
          cases hs
          rcases DataW.trod_slice ht hx with ⟨rfl, rfl⟩ | ⟨a, len, cap, elems, rest, n, rfl, rfl, rfl, hb, hl, hm, hel, heach, _, _⟩
          · refine ⟨[.rd (es.all CS.scal) []], .cons (.sl (by simp) (by simp)) .nil, rfl, fun i v hi => ?_⟩
            cases i with
            | zero =>
              simp at hi; subst hi
              exact .rd _ [] none 0 es.length (fun _ _ => undef) (by simp) (by simp) (by simp) (fun i c v h => by simp [cellAt] at h) (fun i c v h => by simp [cellAt] at h)
            | succ i => simp at hi
          · -- each element
            have each : ∀ i, i < len → ∃ (r : List AV) (vs : List Value), FitsAll es r ∧ vs.length = es.length ∧ (∀ j, j < es.length → W.cell? (a.add (i * es.length + j)) = vs[j]?) ∧ ∀ j v, r[j]? = some v → Rd cell v (vs.getD j undef) := fun i hi => by
              have h1 := heach i hi
              have hi' : i < elems.length := by omega
              rw [List.getElem?_eq_getElem hi', Option.bind_eq_some_iff] at h1
              obtain ⟨vs, h2, h3⟩ := h1
              obtain ⟨_, h4, h5⟩ := World.cells?_some h2
              obtain ⟨r, k1, k2, k3⟩ := ih e n vs elems[i] es hes h3 (fun m hm' => hw m (by
                simp only [DataW.weights, ht, List.mem_cons, List.mem_append]
                refine .inr (.inl ?_)
                exact weightsAll_mem (List.mem_map.2 ⟨_, List.getElem_mem hi', rfl⟩) hm'))
              refine ⟨r, vs, k1, by omega, fun j hj => ?_, k3⟩
              have := h5 j (by omega)
              rw [← this, hlen]
              have hadd : (a.add (i * P.cellsOf e)).add j = a.add (i * P.cellsOf e + j) := by
                unfold Addr.add
                by_cases h1 : i * P.cellsOf e = 0 <;> by_cases h2 : j = 0 <;> simp [h1, h2, Nat.add_assoc]
              rw [hadd]
            classical
            have each' : ∀ i : Nat, ∃ p : List AV × List Value, i < len → FitsAll es p.1 ∧ p.2.length = es.length ∧ (∀ j, j < es.length → W.cell? (a.add (i * es.length + j)) = p.2[j]?) ∧ ∀ j v, p.1[j]? = some v → Rd cell v (p.2.getD j undef) := fun i => by
              by_cases hi : i < len
              · obtain ⟨r, vs, h⟩ := each i hi; exact ⟨(r, vs), fun _ => h⟩
              · exact ⟨([], []), fun h => absurd h hi⟩
            obtain ⟨f, hf⟩ := Classical.axiomOfChoice each'
            have hxs : ∀ i r, ((List.range len).map fun i => (f i).1)[i]? = some r → i < len ∧ r = (f i).1 := fun i r h => by
              simp only [List.getElem?_map, Option.map_eq_some_iff] at h
              obtain ⟨j, h1, h2⟩ := h
              obtain ⟨h3, h4⟩ := List.getElem?_eq_some_iff.1 h1
              simp at h3 h4
              subst h4
              exact ⟨h3, h2.symm⟩
            have hmem : ∀ r ∈ (List.range len).map fun i => (f i).1, FitsAll es r := fun r hr => by
              obtain ⟨i, h1, rfl⟩ := List.mem_map.1 hr
              exact (hf i (by simpa using h1)).1
            refine ⟨[.rd (es.all CS.scal) ((List.range len).map fun i => (f i).1)], .cons (.sl ?_ hmem) .nil, rfl, fun i v hi => ?_⟩
            · have := hw ((elems.length + rest.length) * P.bytesOf e) (by simp [DataW.weights, ht])
              have h2 : len * P.bytesOf e ≤ (elems.length + rest.length) * P.bytesOf e := Nat.mul_le_mul_right _ (by omega)
              simp only [List.length_map, List.length_range]
              omega
            · cases i with
              | zero =>
                simp at hi; subst hi
                have hR := Rd.rd (cell := cell) (es.all CS.scal) ((List.range len).map fun i => (f i).1) (some a) cap es.length (fun i c => (f i).2.getD c undef) (by simpa using hl)
                  (fun r hr => (hmem r hr).len) (fun hfl r hr v hv => (hmem r hr).scal hfl v hv)
                  (fun i c v h => by
                    unfold cellAt at h
                    split at h
                    · rename_i r hr
                      obtain ⟨h1, rfl⟩ := hxs i r hr
                      obtain ⟨k1, k2, k3, k4⟩ := hf i h1
                      have hc : c < es.length := by rw [← k1.len]; exact (List.getElem?_eq_some_iff.1 h).1
                      refine ⟨a, rfl, hcell _ _ ?_⟩
                      rw [k3 c hc]
                      simp [List.getElem?_eq_getElem (show c < (f i).2.length by omega)]
                    · cases h)
                  (fun i c v h => by
                    unfold cellAt at h
                    split at h
                    · rename_i r hr
                      obtain ⟨h1, rfl⟩ := hxs i r hr
                      exact (hf i h1).2.2.2 c v h
                    · cases h)
                simpa using hR
              | succ i => simp at hi
        · cases hs
      · cases hs
    · rename_i fs ht
      split at hs
      · rename_i l hl
        split at hs
        · rename_i hlen
          cases hs
          obtain ⟨xs, n, rfl, rfl, hvl, hxl, heach⟩ := DataW.trod_struct ht hx
          have hw' : ∀ n ∈ DataW.weightsEach P (fs.toList.map (·.type)) (xs.map (·.1)), n ≤ reachBytes := fun m hm => hw m (by simpa [DataW.weights, ht] using hm)
          have main : ∀ (fl : List Field) (off : Nat) (ys : List (DataW H × List MemPlace)) (l : List CS), fieldsOf P (shapeOf P d) off fl = some l → ys.length = fl.length →
              (∀ (i : Nat) (f : Field), fl[i]? = some f → DataW.trod enc P W 0 spare held n f.type ((vals.drop f.offset).take (P.cellsOf f.type)) = ys[i]?) →
              (∀ n ∈ DataW.weightsEach P (fl.map (·.type)) (ys.map (·.1)), n ≤ reachBytes) →
              ∃ avs, FitsAll l avs ∧ ∀ i v, avs[i]? = some v → Rd cell v (vals.getD (off + i) undef) := by
            intro fl
            induction fl with
            | nil =>
              intro off ys l hfo _ _ _
              simp only [fieldsOf, Option.some.injEq] at hfo
              subst hfo
              exact ⟨[], .nil, fun i v hi => by simp at hi⟩
            | cons f r ihf =>
              intro off ys l hfo hyl hea hww
              simp only [fieldsOf] at hfo
              split at hfo
              · rename_i hoff
                split at hfo
                · rename_i cs1 hcs1
                  split at hfo
                  · rename_i hcl
                    split at hfo
                    · rename_i l2 hl2
                      cases hfo
                      cases ys with
                      | nil => simp at hyl
                      | cons y ys =>
                        have h0 := hea 0 f (by simp)
                        simp only [List.getElem?_cons_zero] at h0
                        simp only [List.map_cons, DataW.weightsEach, List.mem_append] at hww
                        obtain ⟨avs1, k1, k2, k3⟩ := ih f.type n _ y cs1 hcs1 h0 (fun m hm => hww m (.inl hm))
                        obtain ⟨avs2, j1, j3⟩ := ihf (off + cs1.length) ys l2 hl2 (by simpa using hyl) (fun i f' hi => by simpa using hea (i + 1) f' (by simpa using hi)) (fun m hm => hww m (.inr hm))
                        refine ⟨avs1 ++ avs2, k1.append j1, fun i v hi => ?_⟩
                        have hl1 := k1.len
                        by_cases hlt : i < avs1.length
                        · rw [List.getElem?_append_left hlt] at hi
                          have := k3 i v hi
                          have hget : ((vals.drop f.offset).take (P.cellsOf f.type)).getD i undef = vals.getD (off + i) undef := by
                            simp only [List.getD_eq_getElem?_getD]
                            rw [List.getElem?_take_of_lt (by omega), List.getElem?_drop, hoff]
                          rwa [hget] at this
                        · rw [List.getElem?_append_right (by omega)] at hi
                          have := j3 _ v hi
                          rwa [hl1, show off + cs1.length + (i - cs1.length) = off + i by omega] at this
                    · cases hfo
                  · cases hfo
                · cases hfo
              · cases hfo
          obtain ⟨avs, k1, k2⟩ := main fs.toList 0 xs _ hl (by simpa using hxl) (fun i f hi => heach i f (by simpa using hi)) hw'
          refine ⟨avs, k1, by rw [k1.len, hlen, hvl], fun i v hi => by simpa using k2 i v hi⟩
        · cases hs
      · cases hs
    · cases hs
end
end Go.Ae
