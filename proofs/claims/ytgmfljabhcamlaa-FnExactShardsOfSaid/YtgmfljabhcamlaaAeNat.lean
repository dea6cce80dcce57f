/- Functions of Go's library that are met by their contracts: strings.Repeat, strings.Join. -/
import Derived.Test.YtgmfljabhcamlaaAeArgs
import Derived.Test.YtgmfljabhcamlaaAeProg
import Derived.Lib.Join
import Derived.Lib.Repeat
namespace Go.Ae
open Go.RowKit
set_option linter.unusedVariables false
set_option linter.unusedSimpArgs false
section
variable {P : Program} {f : Nat} {args : List AV} {E : List Heap}
/-- A function that returns a text, and leaves all memory that was there as it was. -/
theorem callOk_str {t : ByteArray} (h : ∀ (w : World) (R : Nat → Prop) (g : G) (cargs : Array Value), RdW w g.θ R → VRels ⟨args, [], E⟩ g (stab w R) args cargs → Calls P f cargs w fun e w' => e = .returned (.string t) ∧ Below w.heap.size w w') : CallOk P f args E ⟨.str t, [], E⟩ := by
  intro w R g cargs hR hθ hW hv
  refine (h w R g cargs hR hv).mono ?_
  rintro e w' ⟨rfl, hb⟩
  have hs : ∀ lv, (resSt ⟨.str t, [], E⟩).heap lv = (⟨args, [], E⟩ : St).heap lv := fun lv => by cases lv <;> rfl
  exact ⟨_, g, rfl, (hW.world hb.os hb.tape hb.output hb.size hb.block).sameHeap hs, Ext.sameHeap hs, .str t⟩
theorem callOk_int {k : IntKind} {n : Int} (h : ∀ (w : World) (R : Nat → Prop) (g : G) (cargs : Array Value), RdW w g.θ R → VRels ⟨args, [], E⟩ g (stab w R) args cargs → Calls P f cargs w fun e w' => e = .returned (.int k n) ∧ Below w.heap.size w w') : CallOk P f args E ⟨.int k n, [], E⟩ := by
  intro w R g cargs hR hθ hW hv
  refine (h w R g cargs hR hv).mono ?_
  rintro e w' ⟨rfl, hb⟩
  have hs : ∀ lv, (resSt ⟨.int k n, [], E⟩).heap lv = (⟨args, [], E⟩ : St).heap lv := fun lv => by cases lv <;> rfl
  exact ⟨_, g, rfl, (hW.world hb.os hb.tape hb.output hb.size hb.block).sameHeap hs, Ext.sameHeap hs, .int k n⟩
theorem two_args {S : St} {g : G} {cell : Addr → Option Value} {a b : AV} {arr : Array Value} (h : VRels S g cell [a, b] arr) : ∃ x y, arr = #[x, y] ∧ VRel S g cell a x ∧ VRel S g cell b y := by
  obtain ⟨h1, h2⟩ := h
  have hs : arr.size = 2 := h1.symm
  refine ⟨arr.getD 0 undef, arr.getD 1 undef, ?_, h2 0 a rfl, h2 1 b rfl⟩
  apply Array.ext
  · simp [hs]
  · intro i hi hj
    rcases i with _ | _ | i
    · simp [hs]
    · simp [hs]
    · omega
end
def repB (s : ByteArray) (c : Nat) : ByteArray := ⟨(Lib.repeatL s.data.toList c).toArray⟩
def natRepeat : List AV → Option (AV × List Blk)
  | [.str s, .int .i64 c] => if 0 ≤ c ∧ c ≤ 9223372036854775807 ∧ s.size * c.toNat ≤ 140737488355328 then some (.str (repB s c.toNat), []) else none
  | _ => none
def strsOf : List (List AV) → Option (List ByteArray)
  | [] => some []
  | [.str s] :: r => match strsOf r with | some l => some (s :: l) | none => none
  | _ => none
def joinB (l : List ByteArray) (sep : ByteArray) : ByteArray := ⟨(Lib.join (l.map (·.data.toList)) sep.data.toList).toArray⟩
def natJoin : List AV → Option (AV × List Blk)
  | [.rd _ xs, .str sep] => match strsOf xs with
    | some l => if l.length ≤ 140737488355328 ∧ (Lib.join (l.map (·.data.toList)) sep.data.toList).length ≤ 140737488355328 then some (.str (joinB l sep), []) else none
    | none => none
  | _ => none
section
variable {P : Program} {f : Nat} {args : List AV} {E : List Heap} {v : AV} {bs : List Blk}
theorem natRepeat_ok (hc : ∀ (s : ByteArray) (c : Nat) (w : World), c ≤ 9223372036854775807 → s.size * c ≤ 140737488355328 → Calls P f #[.string s, .int .i64 c] w fun e w' => e = .returned (.string ⟨(Lib.repeatL s.data.toList c).toArray⟩) ∧ Below w.heap.size w w')
    (h : natRepeat args = some (v, bs)) : CallOk P f args E ⟨v, bs, E⟩ := by
  unfold natRepeat at h
  split at h
  · rename_i s c
    split at h
    · rename_i hb
      cases h
      obtain ⟨h1, h2, h3⟩ := hb
      refine callOk_str fun w R g cargs hR hv => ?_
      obtain ⟨x, y, rfl, hx, hy⟩ := two_args hv
      rw [hx.str_inv, hy.int_inv]
      have e : c = ((c.toNat : Nat) : Int) := by omega
      rw [e]
      exact hc s c.toNat w (by omega) (by simpa using h3)
    · cases h
  · cases h
theorem strsOf_at : ∀ {xs : List (List AV)} {l : List ByteArray}, strsOf xs = some l → xs = l.map fun s => [.str s]
  | [], l, h => by simp [strsOf] at h; subst h; rfl
  | [.str s] :: r, l, h => by
    simp only [strsOf] at h
    split at h
    · rename_i l' hl
      cases h
      rw [strsOf_at hl]; rfl
    · cases h
  | [] :: r, l, h => by simp [strsOf] at h
  | (.str s :: b :: c) :: r, l, h => by simp [strsOf] at h
  | (.int .. :: _) :: r, l, h => by simp [strsOf] at h
  | (.bool _ :: _) :: r, l, h => by simp [strsOf] at h
  | (.nil .. :: _) :: r, l, h => by simp [strsOf] at h
  | (.rd .. :: _) :: r, l, h => by simp [strsOf] at h
  | (.own .. :: _) :: r, l, h => by simp [strsOf] at h
  | (.sl .. :: _) :: r, l, h => by simp [strsOf] at h
  | (.ptr .. :: _) :: r, l, h => by simp [strsOf] at h
  | (.rptr _ :: _) :: r, l, h => by simp [strsOf] at h
  | (.agg _ :: _) :: r, l, h => by simp [strsOf] at h
  | (.fn .. :: _) :: r, l, h => by simp [strsOf] at h
  | (.tup _ :: _) :: r, l, h => by simp [strsOf] at h
  | (.skp :: _) :: r, l, h => by simp [strsOf] at h
  | (.undef :: _) :: r, l, h => by simp [strsOf] at h
theorem rd_str {cell : Addr → Option Value} {s : ByteArray} {u : Value} (h : Rd cell (.str s) u) : u = .string s := by cases h; rfl
theorem stab_cell? {w : World} {R : Nat → Prop} {a : Addr} {v : Value} (h : stab w R a = some v) : w.cell? a = some v := by
  unfold stab at h
  split at h
  · exact h
  · cases h
theorem cell_spot {w : World} {a : Addr} {v : Value} (h : w.cell? a = some v) : a.spot = none := by
  unfold World.cell? at h
  split at h
  · split at h
    · cases h
    · rename_i hs; simpa using hs
  · cases h
theorem natJoin_ok (h0 : ∀ (a : Option Addr) (c : Nat) (sep : ByteArray) (w : World), Calls P f #[.slice a 0 c, .string sep] w fun e w' => e = .returned (.string ⟨#[]⟩) ∧ w' = w)
    (hc : ∀ (bk o c : Nat) (xs : List ByteArray) (sep : ByteArray) (w : World), (∀ (j : Nat) x, xs[j]? = some x → w.cell? ⟨bk, o + j, none⟩ = some (.string x)) → bk < w.heap.size → xs.length ≤ 140737488355328 → xs.length ≤ c →
      (Lib.join (xs.map (·.data.toList)) sep.data.toList).length ≤ 140737488355328 → Calls P f #[.slice (some ⟨bk, o, none⟩) xs.length c, .string sep] w fun e w' => e = .returned (.string ⟨(Lib.join (xs.map (·.data.toList)) sep.data.toList).toArray⟩) ∧ Below w.heap.size w w')
    (h : natJoin args = some (v, bs)) : CallOk P f args E ⟨v, bs, E⟩ := by
  unfold natJoin at h
  split at h
  · rename_i fl xs sep
    split at h
    · rename_i l hl
      split at h
      · rename_i hb
        cases h
        refine callOk_str fun w R g cargs hR hv => ?_
        obtain ⟨x, y, rfl, hx, hy⟩ := two_args hv
        rw [hy.str_inv]
        have hxs := strsOf_at hl
        have hlen : xs.length = l.length := by rw [hxs]; simp
        have hr := hx.rd_inv
        cases hr with
        | rd _ _ A cap sz cv g1 g2 g3 g4 g5 =>
          cases l with
          | nil =>
            rw [show xs.length = 0 by simpa using hlen]
            refine (h0 A cap sep w).mono ?_
            rintro e w' ⟨rfl, rfl⟩
            exact ⟨rfl, Below.refl _ _⟩
          | cons s0 l' =>
            have hat : ∀ (j : Nat) t, (s0 :: l')[j]? = some t → cellAt xs j 0 = some (.str t) := fun j t ht => by
              rw [hxs]; unfold cellAt; rw [List.getElem?_map, ht]; rfl
            have hsz : sz = 1 := by
              have := g2 [.str s0] (by rw [hxs]; simp)
              simpa using this.symm
            subst hsz
            obtain ⟨a, rfl, ha⟩ := g4 0 0 _ (hat 0 s0 rfl)
            have hcell : ∀ (j : Nat) t, (s0 :: l')[j]? = some t → w.cell? (a.add j) = some (.string t) := fun j t ht => by
              obtain ⟨a', e1, e2⟩ := g4 j 0 _ (hat j t ht)
              cases e1
              have := g5 j 0 _ (hat j t ht)
              have e3 : cv j 0 = .string t := rd_str this
              rw [e3] at e2
              have := stab_cell? e2
              simpa using this
            have hsp : a.spot = none := by
              have := hcell 0 s0 rfl
              exact cell_spot (by simpa [Addr.add] using this)
            obtain ⟨bk, o, sp⟩ := a
            simp only at hsp
            subst hsp
            rw [hlen]
            refine hc bk o cap (s0 :: l') sep w (fun j t ht => ?_) ?_ hb.1 (by omega) hb.2
            · have := hcell j t ht
              rwa [Addr.add_lit] at this
            · have := hcell 0 s0 rfl
              rw [Addr.add_lit] at this
              exact World.block_lt_of_cell? w _ this
      · cases h
    · cases h
  · cases h
end
theorem call_nat {p : Prog} {n f : Nat} {g : List AV → Option (AV × List Blk)} {args : List AV} {E : List Heap} {v : AV} {bs : List Blk} (h : p.nat f = some g) (h2 : g args = some (v, bs)) : call p (n + 1) f args E = some ⟨v, bs, E⟩ := by simp [call, h, h2]
end Go.Ae
