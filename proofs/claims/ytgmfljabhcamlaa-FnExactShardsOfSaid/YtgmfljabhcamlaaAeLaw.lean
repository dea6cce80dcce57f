/- A law's row out of the evaluator's answer. -/
import Derived.Test.YtgmfljabhcamlaaAeArgs
import Derived.ShutString
namespace Go.Ae
open Go.RowKit Go.ChangeShapes Go.WideShapes
set_option linter.unusedVariables false
set_option linter.unusedSimpArgs false

/-- What an argument is: a struct's cells, or one. -/
def PFits : Bool × List CS → AV → Prop
  | (true, cs), v => ∃ avs, v = .agg avs ∧ FitsAll cs avs
  | (false, cs), v => FitsAll cs [v]
def PFitsAll : List (Bool × List CS) → List AV → Prop
  | [], [] => True
  | p :: ps, v :: vs => PFits p v ∧ PFitsAll ps vs
  | _, _ => False
def paramsOf (P : Program) : List TypeId → Option (List (Bool × List CS))
  | [] => some []
  | t :: ts => match aggT P t, shapeOf P 24 t, paramsOf P ts with
    | some ag, some cs, some r => if P.readableRec t && decide (t < P.types.size) then some ((ag, cs) :: r) else none
    | _, _, _ => none

section
variable {H : Type} {enc : TypeId × Value → H} {P : Program} {W : World} {cell : Addr → Option Value}

theorem arg_open (hcell : ∀ a v, W.cell? a = some v → cell a = some v) {S : St} {g : G} {t : TypeId} {v : Value} {d : DataW H} {ps : List MemPlace} {cs : List CS} {ag : Bool} (hs : shapeOf P 24 t = some cs) (ha : aggT P t = some ag)
    (hd : DataW.Trod enc P W 0 (fun _ => true) true t v d ps) (hok : Value.okWide P W .any 0 t v) (hw : ∀ n ∈ d.weights P t, n ≤ reachBytes) : ∃ a, PFits (ag, cs) a ∧ VRel S g cell a v := by
  obtain ⟨fuel, hf⟩ := hd
  obtain ⟨avs, h1, h2, h3⟩ := open_shape hcell 24 t fuel _ (d, ps) cs hs hf hw
  have one : (∀ arr, v ≠ .agg arr) → v.cells.toList = [v] := fun h => by cases v <;> first | rfl | exact absurd rfl (h _)
  have single : ag = false → (∀ arr, v ≠ .agg arr) → ∃ a, PFits (ag, cs) a ∧ VRel S g cell a v := fun hag hne => by
    rw [one hne] at h2 h3
    cases avs with
    | nil => simp at h2
    | cons a r =>
      cases r with
      | nil =>
        subst hag
        exact ⟨a, h1, (h3 0 a rfl).vrel⟩
      | cons b r => simp at h2
  unfold shapeOf at hs
  unfold aggT at ha
  split at hs
  · rename_i ht
    rw [ht] at ha
    obtain ⟨b, rfl⟩ := okWide_bool ht hok
    exact single (by cases ha; rfl) (fun _ h => by cases h)
  · rename_i k ht
    rw [ht] at ha
    obtain ⟨b, rfl⟩ := okWide_int ht hok
    exact single (by cases ha; rfl) (fun _ h => by cases h)
  · rename_i ht
    rw [ht] at ha
    obtain ⟨b, rfl⟩ := okWide_string ht hok
    exact single (by cases ha; rfl) (fun _ h => by cases h)
  · rename_i e ht
    rw [ht] at ha
    obtain ⟨_, _, _, rfl⟩ := okWide_slice ht hok
    exact single (by cases ha; rfl) (fun _ h => by cases h)
  · rename_i fs ht
    rw [ht] at ha
    obtain ⟨arr, rfl, _⟩ := okWide_struct ht hok
    cases ha
    refine ⟨.agg avs, ⟨avs, rfl, h1⟩, .agg avs arr (by simpa [Value.cells] using h2) fun i u hi => ?_⟩
    have := h3 i u hi
    have e : (Value.cells (.agg arr)).toList.getD i undef = arr.getD i Go.undef := by simp [Value.cells, List.getD_eq_getElem?_getD]
    rw [e] at this
    exact this.vrel
  · cases hs

theorem args_open (hcell : ∀ a v, W.cell? a = some v → cell a = some v) {S : St} {g : G} : ∀ {ts : List TypeId} {vs : List Value} {ds : List (DataW H)} {ps : List MemPlace} {l : List (Bool × List CS)}, paramsOf P ts = some l →
    DataW.TrodAll enc P W 0 (fun _ => true) true ts vs ds ps → (∀ (j : Nat) t v, ts[j]? = some t → vs[j]? = some v → Value.okWide P W .any 0 t v) → (∀ n ∈ DataW.weightsEach P ts ds, n ≤ reachBytes) →
    ∃ avs, PFitsAll l avs ∧ avs.length = vs.length ∧ ∀ i a, avs[i]? = some a → VRel S g cell a (vs.getD i undef)
  | [], vs, ds, ps, l, hl, hA, hok, hw => by
    obtain ⟨rfl, rfl, rfl⟩ := trodAll_nil hA
    cases hl
    exact ⟨[], trivial, rfl, fun i a hi => by simp at hi⟩
  | t :: ts, vs, ds, ps, l, hl, hA, hok, hw => by
    obtain ⟨v, vs', d, ds', p, q, rfl, rfl, rfl, hd, hr⟩ := trodAll_cons hA
    simp only [paramsOf] at hl
    split at hl
    · rename_i ag cs r h1 h2 h3
      split at hl
      · rename_i hc
        cases hl
        simp only [DataW.weightsEach, List.mem_append] at hw
        obtain ⟨a, k1, k2⟩ := arg_open (S := S) (g := g) hcell h2 h1 hd (hok 0 t v rfl rfl) (fun n hn => hw n (.inl hn))
        obtain ⟨avs, j1, j2, j3⟩ := args_open (S := S) (g := g) hcell h3 hr (fun j t' v' h h' => hok (j + 1) t' v' (by simpa using h) (by simpa using h')) (fun n hn => hw n (.inr hn))
        refine ⟨a :: avs, ⟨k1, j1⟩, by simp [j2], fun i u hi => ?_⟩
        cases i with
        | zero => simp at hi; subst hi; simpa using k2
        | succ i => simpa using j3 i u (by simpa using hi)
      · cases hl
    · cases hl

theorem args_back (hl : laidOutB P = true) {W' : World} (hb : Below W.heap.size W W') : ∀ {ts : List TypeId} {vs : List Value} {ds : List (DataW H)} {ps : List MemPlace} {l : List (Bool × List CS)}, paramsOf P ts = some l →
    DataW.TrodAll enc P W 0 (fun _ => true) true ts vs ds ps → DataW.TrodAll enc P W' 0 (fun b => decide (b < W.heap.size)) true ts vs ds ps
  | [], vs, ds, ps, l, h, hA => by
    obtain ⟨rfl, rfl, rfl⟩ := trodAll_nil hA
    exact trodAll_mk0
  | t :: ts, vs, ds, ps, l, h, hA => by
    obtain ⟨v, vs', d, ds', p, q, rfl, rfl, rfl, hd, hr⟩ := trodAll_cons hA
    simp only [paramsOf] at h
    split at h
    · rename_i ag cs r h1 h2 h3
      split at h
      · rename_i hc
        simp only [Bool.and_eq_true, decide_eq_true_eq] at hc
        have lt : ∀ x ∈ p, x.block < W.heap.size := by obtain ⟨m, hm⟩ := hd; exact DataW.trod_lt m _ _ _ hm
        exact trodAll_cons_mk (Below.trod hl hc.1 hc.2 hd hb lt) (args_back hl hb h3 hr)
      · cases h
    · cases h
end

theorem law_calls {P : Program} {p : Prog} (hp : ProgOk P p) (hm : P.follows .mixedOrders = true) {f n : Nat} {avs : List AV} {cargs : Array Value} {W : World} {bs : List Blk} {e : List Heap}
    (hc : call p n f avs [] = some ⟨.bool true, bs, e⟩) (hlen : avs.length = cargs.size)
    (hv : ∀ i a, avs[i]? = some a → VRel ⟨avs, [], []⟩ ⟨fun _ _ _ => none, fun _ => 0⟩ (stab W (· < W.heap.size)) a (cargs.getD i undef)) :
    Calls P f cargs W fun e W' => e = .returned (.bool true) ∧ Below W.heap.size W W' := by
  have hW0 : WRel W (fun _ _ _ => none) (· < W.heap.size) ⟨avs, [], []⟩ ⟨fun _ _ _ => none, fun _ => 0⟩ W := {
    os := rfl, tape := rfl, output := rfl, size := Nat.le_refl _
    keep := fun _ _ _ => rfl
    rng := fun _ _ _ _ h => nomatch h
    fresh := fun _ _ _ h => nomatch h
    ext := fun _ _ _ _ h => nomatch h
    inj := fun _ _ _ _ _ _ _ h => nomatch h
    cont := fun lv s b p ys hb _ => by
      exfalso
      unfold St.blk at hb
      cases lv <;> simp [St.heap, Heap.get] at hb }
  have h := (call_ok hp hm n).ok f avs [] _ hc W (· < W.heap.size) ⟨fun _ _ _ => none, fun _ => 0⟩ cargs ⟨fun B hB => ⟨hB, fun _ _ _ h => nomatch h⟩⟩ (fun _ _ => rfl) hW0 ⟨hlen, hv⟩
  refine h.mono ?_
  rintro e' w' ⟨cv, g', rfl, hW, _, hV⟩
  rw [hV.bool_inv]
  exact ⟨rfl, ⟨hW.os, hW.tape, hW.output, hW.size, fun k hk => hW.keep k hk (fun _ _ _ h => nomatch h)⟩⟩

theorem cell_stab {W : World} (a : Addr) (v : Value) (h : W.cell? a = some v) : stab W (· < W.heap.size) a = some v := by
  unfold stab
  rw [if_pos]
  · exact h
  · unfold World.cell? at h
    cases hb : W.heap[a.block]? with
    | none => simp [hb] at h
    | some o => exact (Array.getElem?_eq_some_iff.1 hb).1

/-- A law that answers true: its contract. -/
theorem law_contract {H : Type} {enc : TypeId × Value → H} {P : Program} {p : Prog} (hp : ProgOk P p) (hm : P.follows .mixedOrders = true) {f : Nat} {l : List (Bool × List CS)} {ts : List TypeId} (hl : paramsOf P ts = some l)
    (law : ∀ avs, PFitsAll l avs → ∃ n bs e, call p n f avs [] = some ⟨.bool true, bs, e⟩)
    {W : World} {args : Array Value} {ds : List (DataW H)} {ps : List MemPlace} (hA : DataW.TrodAll enc P W 0 (fun _ => true) true ts args.toList ds ps)
    (hok : ∀ (j : Nat) t v, ts[j]? = some t → args[j]? = some v → Value.okWide P W .any 0 t v) (hw : (DataW.weightsEach P ts ds).all (· ≤ reachBytes) = true) :
    Calls P f args W fun e W' => e = .returned (.bool true) ∧ Below W.heap.size W W' := by
  obtain ⟨avs, k1, k2, k3⟩ := args_open (S := ⟨[], [], []⟩) (g := ⟨fun _ _ _ => none, fun _ => 0⟩) cell_stab hl hA (fun j t v h h' => hok j t v h (by simpa using h')) (fun n hn => by simpa using List.all_eq_true.1 hw n hn)
  obtain ⟨n, bs, e, hc⟩ := law avs k1
  obtain ⟨avs', j1, j2, j3⟩ := args_open (S := ⟨avs, [], []⟩) (g := ⟨fun _ _ _ => none, fun _ => 0⟩) cell_stab hl hA (fun j t v h h' => hok j t v h (by simpa using h')) (fun n hn => by simpa using List.all_eq_true.1 hw n hn)
  refine law_calls hp hm hc (by simpa using k2) fun i a hi => ?_
  have hs : ∀ lv, (⟨avs, [], []⟩ : St).heap lv = (⟨[], [], []⟩ : St).heap lv := fun lv => by cases lv <;> rfl
  have := (k3 i a hi).mono (Ext.sameHeap (g := ⟨fun _ _ _ => none, fun _ => 0⟩) hs)
  have e : args.toList.getD i undef = args.getD i undef := by simp [List.getD_eq_getElem?_getD]
  rw [e] at this
  exact this
end Go.Ae
