/- Functions of Go's library that are met by their contracts: strings.Repeat, strings.Join. -/
import Derived.Test.YtiabjkihebhfkaaGreatAeL5
import Derived.Test.YtiabjkihebhfkaaGreatAeL4
import Derived.Lib.Join
import Derived.Lib.Repeat
namespace Go.Ae
open Go.RowKit
set_option linter.unusedVariables false
set_option linter.unusedSimpArgs false
section
variable {P : Program} {f : Nat} {args : List AV} {E : List Heap}
/-- A function that returns a text, and leaves all memory that was there as it was. -/
theorem callOk_str {t : ByteArray} (h : ∀ (w : World) (R : Nat → Prop) (g : G) (cargs : Array Value), RdW w g.θ R → VRels ⟨args, [], E⟩ g (stab w R) args cargs → Calls P f cargs w fun e w' => e = .returned (.string t) ∧ Below w.heap.size w w') : CallOk P f args E ⟨.str t, [], E⟩ := by
  intro w R g cargs hR hθ hW hv
  refine (h w R g cargs hR hv).mono ?_
  rintro e w' ⟨rfl, hb⟩
  have hs : ∀ lv, (resSt ⟨.str t, [], E⟩).heap lv = (⟨args, [], E⟩ : St).heap lv := fun lv => by cases lv <;> rfl
  exact ⟨_, g, rfl, (hW.world hb.os hb.tape hb.output hb.size hb.block).sameHeap hs, Ext.sameHeap hs, .str t⟩
theorem callOk_int {k : IntKind} {n : Int} (h : ∀ (w : World) (R : Nat → Prop) (g : G) (cargs : Array Value), RdW w g.θ R → VRels ⟨args, [], E⟩ g (stab w R) args cargs → Calls P f cargs w fun e w' => e = .returned (.int k n) ∧ Below w.heap.size w w') : CallOk P f args E ⟨.int k n, [], E⟩ := by
  intro w R g cargs hR hθ hW hv
  refine (h w R g cargs hR hv).mono ?_
  rintro e w' ⟨rfl, hb⟩
  have hs : ∀ lv, (resSt ⟨.int k n, [], E⟩).heap lv = (⟨args, [], E⟩ : St).heap lv := fun lv => by cases lv <;> rfl
  exact ⟨_, g, rfl, (hW.world hb.os hb.tape hb.output hb.size hb.block).sameHeap hs, Ext.sameHeap hs, .int k n⟩
theorem two_args {S : St} {g : G} {cell : Addr → Option Value} {a b : AV} {arr : Array Value} (h : VRels S g cell [a, b] arr) : ∃ x y, arr = #[x, y] ∧ VRel S g cell a x ∧ VRel S g cell b y := by
  obtain ⟨h1, h2⟩ := h
  have hs : arr.size = 2 := h1.symm
  refine ⟨arr.getD 0 undef, arr.getD 1 undef, ?_, h2 0 a rfl, h2 1 b rfl⟩
  apply Array.ext
  · simp [hs]
  · intro i hi hj
    rcases i with _ | _ | i
    · simp [hs]
    · simp [hs]
    · omega
end
def repB (s : ByteArray) (c : Nat) : ByteArray := ⟨(Lib.repeatL s.data.toList c).toArray⟩
def natRepeat : List AV → Option (AV × List Blk)
  | [.str s, .int .i64 c] => if 0 ≤ c ∧ c ≤ 9223372036854775807 ∧ s.size * c.toNat ≤ 140737488355328 then some (.str (repB s c.toNat), []) else none
  | _ => none
def strsOf : List (List AV) → Option (List ByteArray)
  | [] => some []
  | [.str s] :: r => match strsOf r with | some l => some (s :: l) | none => none
  | _ => none
def joinB (l : List ByteArray) (sep : ByteArray) : ByteArray := ⟨(Lib.join (l.map (·.data.toList)) sep.data.toList).toArray⟩
def natJoin : List AV → Option (AV × List Blk)
  | [.rd _ xs, .str sep] => match strsOf xs with
    | some l => if l.length ≤ 140737488355328 ∧ (Lib.join (l.map (·.data.toList)) sep.data.toList).length ≤ 140737488355328 then some (.str (joinB l sep), []) else none
    | none => none
  | _ => none
section
variable {P : Program} {f : Nat} {args : List AV} {E : List Heap} {v : AV} {bs : List Blk}
theorem natRepeat_ok (hc : ∀ (s : ByteArray) (c : Nat) (w : World), c ≤ 9223372036854775807 → s.size * c ≤ 140737488355328 → Calls P f #[.string s, .int .i64 c] w fun e w' => e = .returned (.string ⟨(Lib.repeatL s.data.toList c).toArray⟩) ∧ Below w.heap.size w w')
    (h : natRepeat args = some (v, bs)) : CallOk P f args E ⟨v, bs, E⟩ := by
  unfold natRepeat at h
  split at h
  · rename_i s c
    split at h
    · rename_i hb
      cases h
      obtain ⟨h1, h2, h3⟩ := hb
      refine callOk_str fun w R g cargs hR hv => ?_
      obtain ⟨x, y, rfl, hx, hy⟩ := two_args hv
      rw [hx.str_inv, hy.int_inv]
      have e : c = ((c.toNat : Nat) : Int) := by omega
      rw [e]
      exact hc s c.toNat w (by omega) (by simpa using h3)
    · cases h
  · cases h
theorem strsOf_at : ∀ {xs : List (List AV)} {l : List ByteArray}, strsOf xs = some l → xs = l.map fun s => [.str s]
  | [], l, h => by simp [strsOf] at h; subst h; rfl
  | [.str s] :: r, l, h => by
    simp only [strsOf] at h
    split at h
    · rename_i l' hl
      cases h
      rw [strsOf_at hl]; rfl
    · cases h
  | [] :: r, l, h => by simp [strsOf] at h
  | (.str s :: b :: c) :: r, l, h => by simp [strsOf] at h
  | (.int .. :: _) :: r, l, h => by simp [strsOf] at h
  | (.bool _ :: _) :: r, l, h => by simp [strsOf] at h
  | (.nil .. :: _) :: r, l, h => by simp [strsOf] at h
  | (.rd .. :: _) :: r, l, h => by simp [strsOf] at h
  | (.own .. :: _) :: r, l, h => by simp [strsOf] at h
  | (.sl .. :: _) :: r, l, h => by simp [strsOf] at h
  | (.ptr .. :: _) :: r, l, h => by simp [strsOf] at h
  | (.rptr _ :: _) :: r, l, h => by simp [strsOf] at h
  | (.agg _ :: _) :: r, l, h => by simp [strsOf] at h
  | (.fn .. :: _) :: r, l, h => by simp [strsOf] at h
  | (.tup _ :: _) :: r, l, h => by simp [strsOf] at h
  | (.skp :: _) :: r, l, h => by simp [strsOf] at h
  | (.undef :: _) :: r, l, h => by simp [strsOf] at h
theorem rd_str {cell : Addr → Option Value} {s : ByteArray} {u : Value} (h : Rd cell (.str s) u) : u = .string s := by cases h; rfl
theorem stab_cell? {w : World} {R : Nat → Prop} {a : Addr} {v : Value} (h : stab w R a = some v) : w.cell? a = some v := by
  unfold stab at h
  split at h
  · exact h
  · cases h
theorem cell_spot {w : World} {a : Addr} {v : Value} (h : w.cell? a = some v) : a.spot = none := by
  unfold World.cell? at h
  split at h
  · split at h
    · cases h
    · rename_i hs; simpa using hs
  · cases h
theorem natJoin_ok (h0 : ∀ (a : Option Addr) (c : Nat) (sep : ByteArray) (w : World), Calls P f #[.slice a 0 c, .string sep] w fun e w' => e = .returned (.string ⟨#[]⟩) ∧ w' = w)
    (hc : ∀ (bk o c : Nat) (xs : List ByteArray) (sep : ByteArray) (w : World), (∀ (j : Nat) x, xs[j]? = some x → w.cell? ⟨bk, o + j, none⟩ = some (.string x)) → bk < w.heap.size → xs.length ≤ 140737488355328 → xs.length ≤ c →
      (Lib.join (xs.map (·.data.toList)) sep.data.toList).length ≤ 140737488355328 → Calls P f #[.slice (some ⟨bk, o, none⟩) xs.length c, .string sep] w fun e w' => e = .returned (.string ⟨(Lib.join (xs.map (·.data.toList)) sep.data.toList).toArray⟩) ∧ Below w.heap.size w w')
    (h : natJoin args = some (v, bs)) : CallOk P f args E ⟨v, bs, E⟩ := by
  unfold natJoin at h
  split at h
  · rename_i fl xs sep
    split at h
    · rename_i l hl
      split at h
      · rename_i hb
        cases h
        refine callOk_str fun w R g cargs hR hv => ?_
        obtain ⟨x, y, rfl, hx, hy⟩ := two_args hv
        rw [hy.str_inv]
        have hxs := strsOf_at hl
        have hlen : xs.length = l.length := by rw [hxs]; simp
        have hr := hx.rd_inv
        cases hr with
        | rd _ _ A cap sz cv g1 g2 g3 g4 g5 =>
          cases l with
          | nil =>
            rw [show xs.length = 0 by simpa using hlen]
            refine (h0 A cap sep w).mono ?_
            rintro e w' ⟨rfl, rfl⟩
            exact ⟨rfl, Below.refl _ _⟩
          | cons s0 l' =>
            have hat : ∀ (j : Nat) t, (s0 :: l')[j]? = some t → cellAt xs j 0 = some (.str t) := fun j t ht => by
              rw [hxs]; unfold cellAt; rw [List.getElem?_map, ht]; rfl
            have hsz : sz = 1 := by
              have := g2 [.str s0] (by rw [hxs]; simp)
              simpa using this.symm
            subst hsz
            obtain ⟨a, rfl, ha⟩ := g4 0 0 _ (hat 0 s0 rfl)
            have hcell : ∀ (j : Nat) t, (s0 :: l')[j]? = some t → w.cell? (a.add j) = some (.string t) := fun j t ht => by
              obtain ⟨a', e1, e2⟩ := g4 j 0 _ (hat j t ht)
              cases e1
              have := g5 j 0 _ (hat j t ht)
              have e3 : cv j 0 = .string t := rd_str this
              rw [e3] at e2
              have := stab_cell? e2
              simpa using this
            have hsp : a.spot = none := by
              have := hcell 0 s0 rfl
              exact cell_spot (by simpa [Addr.add] using this)
            obtain ⟨bk, o, sp⟩ := a
            simp only at hsp
            subst hsp
            rw [hlen]
            refine hc bk o cap (s0 :: l') sep w (fun j t ht => ?_) ?_ hb.1 (by omega) hb.2
            · have := hcell j t ht
              rwa [Addr.add_lit] at this
            · have := hcell 0 s0 rfl
              rw [Addr.add_lit] at this
              exact World.block_lt_of_cell? w _ this
      · cases h
    · cases h
  · cases h
end
theorem call_natR {p : Prog} {n f : Nat} {g : List AV → List Heap → Option Res} {args : List AV} {E : List Heap} {r : Res} (h0 : p.nat f = none) (h : p.natR f = some g) (h2 : g args E = some r) : call p (n + 1) f args E = some r := by simp [call, h0, h, h2]
theorem call_nat {p : Prog} {n f : Nat} {g : List AV → Option (AV × List Blk)} {args : List AV} {E : List Heap} {v : AV} {bs : List Blk} (h : p.nat f = some g) (h2 : g args = some (v, bs)) : call p (n + 1) f args E = some ⟨v, bs, E⟩ := by simp [call, h, h2]
end Go.Ae
namespace Go.Ae
set_option linter.unusedVariables false
set_option linter.unusedSimpArgs false

def optQ {α : Type} (o : Option α) (k : α → Prop) : Prop := ∃ a, o = some a ∧ k a
@[simp] theorem optQ_some {α : Type} (a : α) (k : α → Prop) : optQ (some a) k = k a := by simp [optQ]
@[simp] theorem optQ_none {α : Type} (k : α → Prop) : optQ none k = False := by simp [optQ]
@[simp] theorem optQ_ite {α : Type} (c : Prop) [Decidable c] (o : Option α) (k : α → Prop) : optQ (if c then o else none) k = (c ∧ optQ o k) := by
  by_cases h : c <;> simp [optQ, h]

section
variable (O : Oracle) (md : Nat → Mode)

def Wp (c : C) (st : St) (Q : Ex → St → Prop) : Prop := ∃ e st', exec O md c st = some (e, st') ∧ Q e st'
def WpO (ops : List IOp) (st : St) (K : St → Prop) : Prop := ∃ st', evalOps O md ops st = some st' ∧ K st'
def thenQ (K : St → Prop) (Q : Ex → St → Prop) : Ex → St → Prop
  | .normal, s => K s
  | e, s => Q e s
def blockQ (id : Nat) (Q : Ex → St → Prop) : Ex → St → Prop
  | .exit j, s => if j = id then Q .normal s else Q (.exit j) s
  | e, s => Q e s
def condQ (v : AV) (p q : Prop) : Prop := match v with
  | .bool b => (b = true → p) ∧ (b = false → q)
  | _ => False
def gQ (o : Option Bool) (p q : Prop) : Prop := match o with
  | some b => (b = true → p) ∧ (b = false → q)
  | none => False
end
section
variable {O : Oracle} {md : Nat → Mode} {st : St} {Q : Ex → St → Prop} {K : St → Prop}

@[simp] theorem thenQ_normal (K : St → Prop) (Q : Ex → St → Prop) (s : St) : thenQ K Q .normal s = K s := rfl
@[simp] theorem thenQ_ret (K : St → Prop) (Q : Ex → St → Prop) (s : St) : thenQ K Q .ret s = Q .ret s := rfl
@[simp] theorem thenQ_exit (K : St → Prop) (Q : Ex → St → Prop) (s : St) (id : Nat) : thenQ K Q (.exit id) s = Q (.exit id) s := rfl
@[simp] theorem blockQ_normal (id : Nat) (s : St) : blockQ id Q .normal s = Q .normal s := rfl
@[simp] theorem blockQ_ret (id : Nat) (s : St) : blockQ id Q .ret s = Q .ret s := rfl
@[simp] theorem blockQ_exit (id : Nat) (s : St) (j : Nat) : blockQ id Q (.exit j) s = if j = id then Q .normal s else Q (.exit j) s := rfl
@[simp] theorem condQ_true (p q : Prop) : condQ (.bool true) p q = p := by simp [condQ]
@[simp] theorem condQ_false (p q : Prop) : condQ (.bool false) p q = q := by simp [condQ]
@[simp] theorem gQ_true (p q : Prop) : gQ (some true) p q = p := by simp [gQ]
@[simp] theorem gQ_false (p q : Prop) : gQ (some false) p q = q := by simp [gQ]
theorem condQ_case {b : Bool} {p q : Prop} (h : b = true → p) (h' : b = false → q) : condQ (.bool b) p q := ⟨h, h'⟩
theorem gQ_case {b : Bool} {p q : Prop} (h : b = true → p) (h' : b = false → q) : gQ (some b) p q := ⟨h, h'⟩
@[simp] theorem evalX_t (n : Nat) : evalX st (.t n) = st.tmps.getD n .undef := rfl
@[simp] theorem evalX_k (v : AV) : evalX st (.k v) = v := rfl
@[simp] theorem setT_some (ts : List AV) (l : Heap) (e : List Heap) (d : Nat) (v : AV) : St.setT ⟨ts, l, e⟩ (some d) v = ⟨ts.set d v, l, e⟩ := rfl
@[simp] theorem setT_none (s : St) (v : AV) : St.setT s none v = s := rfl
@[simp] theorem tmps_mk (ts : List AV) (l : Heap) (e : List Heap) : St.tmps ⟨ts, l, e⟩ = ts := rfl
@[simp] theorem put_zero (ts : List AV) (l : Heap) (e : List Heap) (s : Nat) (b : Option Blk) : St.put ⟨ts, l, e⟩ 0 s b = ⟨ts, l.set s b, e⟩ := rfl
@[simp] theorem addNews_nil' (s : St) : addNews s [] = some s := rfl
@[simp] theorem addNews_cons' (ts : List AV) (l : Heap) (e : List Heap) (s : Nat) (b : Blk) (r : List (Nat × Blk)) : addNews ⟨ts, l, e⟩ ((s, b) :: r) = (match l.get s with | none => addNews ⟨ts, l.set s (some b), e⟩ r | some _ => none) := by
  simp only [addNews, St.new]
  cases Heap.get l s <;> rfl
@[simp] theorem new_mk (ts : List AV) (l : Heap) (e : List Heap) (s : Nat) (b : Blk) : St.new ⟨ts, l, e⟩ s b = (match l.get s with | none => some ⟨ts, l.set s (some b), e⟩ | some _ => none) := by
  simp only [St.new]
  cases Heap.get l s <;> rfl
@[simp] theorem blk_zero (ts : List AV) (l : Heap) (e : List Heap) (s : Nat) : St.blk ⟨ts, l, e⟩ 0 s = (match l.get s with | some (some b) => some b | _ => none) := rfl
@[simp] theorem guardOf_some (t : Nat) (w : Bool) : guardOf st (some (some t, w)) = (match st.tmps.getD t .undef with | .bool b => some (b == w) | .skp => some false | _ => none) := guardOf_getD _

theorem Wp_skip : Wp O md .skip st Q = Q .normal st := by
  apply propext; simp only [Wp, exec]
  constructor
  · rintro ⟨e, s, h, hq⟩; cases h; exact hq
  · intro hq; exact ⟨_, _, rfl, hq⟩
theorem Wp_exit (id : Nat) : Wp O md (.exit id) st Q = Q (.exit id) st := by
  apply propext; simp only [Wp, exec]
  constructor
  · rintro ⟨e, s, h, hq⟩; cases h; exact hq
  · intro hq; exact ⟨_, _, rfl, hq⟩
theorem Wp_ret : Wp O md .ret st Q = Q .ret st := by
  apply propext; simp only [Wp, exec]
  constructor
  · rintro ⟨e, s, h, hq⟩; cases h; exact hq
  · intro hq; exact ⟨_, _, rfl, hq⟩
theorem Wp_reg (ops : List IOp) : Wp O md (.reg ops) st Q = WpO O md ops st (Q .normal) := by
  apply propext
  simp only [Wp, WpO, exec]
  constructor
  · rintro ⟨e, s, h, hq⟩
    split at h
    · rename_i s' h'; cases h; exact ⟨_, h', hq⟩
    · cases h
  · rintro ⟨s, h, hq⟩
    exact ⟨.normal, s, by rw [h], hq⟩
theorem Wp_seq (a b : C) : Wp O md (.seq a b) st Q = Wp O md a st (thenQ (fun s => Wp O md b s Q) Q) := by
  apply propext
  simp only [Wp, exec]
  constructor
  · rintro ⟨e, s, h, hq⟩
    split at h
    · rename_i s' h'; exact ⟨.normal, s', h', e, s, h, hq⟩
    · rename_i r hr
      refine ⟨e, s, h, ?_⟩
      cases e with
      | normal => exact absurd h (hr s)
      | _ => exact hq
  · rintro ⟨e, s, h, hq⟩
    cases e with
    | normal =>
      obtain ⟨e', s', h', hq'⟩ := hq
      exact ⟨e', s', by rw [h]; exact h', hq'⟩
    | exit j => exact ⟨.exit j, s, by rw [h], hq⟩
    | ret => exact ⟨.ret, s, by rw [h], hq⟩
theorem Wp_cond (c : X) (a b : C) : Wp O md (.cond c a b) st Q = condQ (evalX st c) (Wp O md a st Q) (Wp O md b st Q) := by
  apply propext
  simp only [Wp, exec, condQ]
  cases evalX st c <;> simp
  rename_i v
  cases v <;> simp
theorem Wp_block (id : Nat) (c : C) : Wp O md (.block id c) st Q = Wp O md c st (blockQ id Q) := by
  apply propext
  simp only [Wp, exec]
  constructor
  · rintro ⟨e, s, h, hq⟩
    split at h
    · rename_i j s' h'
      split at h
      · rename_i hj; cases h; exact ⟨.exit j, _, h', by simp [hj, hq]⟩
      · rename_i hj; cases h; exact ⟨.exit j, _, h', by simp [hj, hq]⟩
    · rename_i r hr
      refine ⟨e, s, h, ?_⟩
      cases e with
      | exit j => exact absurd h (hr j s)
      | _ => exact hq
  · rintro ⟨e, s, h, hq⟩
    cases e with
    | exit j =>
      rw [h]
      simp only [blockQ] at hq
      by_cases hj : j = id
      · exact ⟨.normal, s, by simp [hj], by simpa [hj] using hq⟩
      · exact ⟨.exit j, s, by simp [hj], by simpa [hj] using hq⟩
    | normal => exact ⟨.normal, s, by rw [h], hq⟩
    | ret => exact ⟨.ret, s, by rw [h], hq⟩

theorem WpO_nil : WpO O md [] st K = K st := by simp [WpO, evalOps]
theorem WpO_guard (d : Option Nat) (op : I) (g : Option Nat × Bool) (b i : Nat) (ap : List X) (r : List IOp) :
    WpO O md (⟨d, op, some g, b, i, ap⟩ :: r) st K = gQ (guardOf st (some g)) (WpO O md (⟨d, op, none, b, i, ap⟩ :: r) st K) (WpO O md r (st.setT d .skp) K) := by
  apply propext
  simp only [WpO, evalOps, evalOp, guardOf, gQ]
  generalize (match g with | (none, _) => some false | (some t, want) => match st.tmps[t]? with | some (.bool b) => some (b == want) | some .skp => some false | _ => none) = q
  have : (guardOf st (some g)) = guardOf st (some g) := rfl
  cases hq : guardOf st (some g) with
  | none => 
    simp only [guardOf] at hq
    rcases g with ⟨_ | t, w⟩
    · simp at hq
    · simp only [] at hq ⊢; rw [hq]; simp
  | some v =>
    simp only [guardOf] at hq
    rcases g with ⟨_ | t, w⟩
    · simp only [Option.some.injEq] at hq; subst hq; simp
    · simp only [] at hq ⊢; rw [hq]; cases v <;> simp [evalI]
theorem WpO_q (d : Option Nat) (op : I) (b i : Nat) (ap : List X) (r : List IOp) (hw : writes md op = false) :
    WpO O md (⟨d, op, none, b, i, ap⟩ :: r) st K = (quietOk st op ap = true ∧ optQ (evalQ O md st b op) fun p => optQ (addNews st p.2) fun s => WpO O md r (s.setT d p.1) K) := by
  apply propext
  simp only [WpO, evalOps, evalOp, guardOf, evalI, hw, optQ]
  simp only [Bool.false_eq_true, if_false]
  constructor
  · rintro ⟨s, h, hk⟩
    split at h
    · rename_i s1 h1
      split at h1
      rotate_left
      · cases h1
      rename_i hqo
      refine ⟨hqo, ?_⟩
      split at h1
      · rename_i v n hq
        split at h1
        · rename_i s2 hn; cases h1; exact ⟨(v, n), hq, s2, hn, s, h, hk⟩
        · cases h1
      · cases h1
    · cases h
  · rintro ⟨hqo, ⟨v, n⟩, h1, s2, h2, s, h3, hk⟩
    refine ⟨s, ?_, hk⟩
    simp only at h2 h3
    rw [if_pos hqo, h1]; simp only; rw [h2]; exact h3
theorem WpO_w (d : Option Nat) (op : I) (b i : Nat) (ap : List X) (r : List IOp) (hw : writes md op = true) :
    WpO O md (⟨d, op, none, b, i, ap⟩ :: r) st K = ((apartOk st op ap && keyedOk st ap) = true ∧ optQ (evalK O md st b op ap) fun p => WpO O md r (p.2.setT d p.1) K) := by
  apply propext
  simp only [WpO, evalOps, evalOp, guardOf, evalI, hw, optQ, if_true]
  constructor
  · rintro ⟨s, h, hk⟩
    split at h
    · rename_i s1 h1
      split at h1
      · rename_i ha
        split at h1
        · rename_i v s2 hq; cases h1; exact ⟨ha, (v, s2), hq, s, h, hk⟩
        · cases h1
      · cases h1
    · cases h
  · rintro ⟨ha, ⟨v, s2⟩, h1, s, h3, hk⟩
    refine ⟨s, ?_, hk⟩
    rw [if_pos ha, h1]; exact h3

end
/-! #### the machine: what is still to be done is a list, not a function -/
inductive Fr where
  | c (c : C)
  | blk (id : Nat)
section
variable (O : Oracle) (md : Nat → Mode)
def kont (Q : Ex → St → Prop) : List Fr → Ex → St → Prop
  | [] => Q
  | .c c :: fs => thenQ (fun s => Wp O md c s (kont Q fs)) (kont Q fs)
  | .blk id :: fs => blockQ id (kont Q fs)
def RunC (c : C) (fs : List Fr) (st : St) (Q : Ex → St → Prop) : Prop := Wp O md c st (kont O md Q fs)
def RunO (ops : List IOp) (fs : List Fr) (st : St) (Q : Ex → St → Prop) : Prop := WpO O md ops st (kont O md Q fs .normal)
def RunE (e : Ex) (fs : List Fr) (st : St) (Q : Ex → St → Prop) : Prop := kont O md Q fs e st
def RunB (v : AV) (a b : C) (fs : List Fr) (st : St) (Q : Ex → St → Prop) : Prop := condQ v (RunC O md a fs st Q) (RunC O md b fs st Q)
def RunG (v : Option Bool) (op : IOp) (r : List IOp) (fs : List Fr) (st : St) (Q : Ex → St → Prop) : Prop := gQ v (RunO O md (op :: r) fs st Q) (RunO O md r fs (st.setT op.dst .skp) Q)
def RunP (v : AV) (d : Option Nat) (x y : AV) (r : List IOp) (fs : List Fr) (st : St) (Q : Ex → St → Prop) : Prop := condQ v (RunO O md r fs (st.setT d x) Q) (RunO O md r fs (st.setT d y) Q)
def RunV (o : Option AV) (d : Option Nat) (r : List IOp) (fs : List Fr) (st : St) (Q : Ex → St → Prop) : Prop := match o with
  | some v => RunO O md r fs (st.setT d v) Q
  | none => False
def RunQ (o : Option (AV × List (Nat × Blk))) (d : Option Nat) (r : List IOp) (fs : List Fr) (st : St) (Q : Ex → St → Prop) : Prop := match o with
  | some (v, n) => match addNews st n with
    | some s => RunO O md r fs (s.setT d v) Q
    | none => False
  | none => False
def RunK (o : Option (AV × St)) (st : St) (op : I) (ap : List X) (d : Option Nat) (r : List IOp) (fs : List Fr) (Q : Ex → St → Prop) : Prop := match o with
  | some (v, s) => keptOk st s op ap ∧ RunO O md r fs (s.setT d v) Q
  | none => False
def RunW (o : Option (AV × St)) (d : Option Nat) (r : List IOp) (fs : List Fr) (Q : Ex → St → Prop) : Prop := match o with
  | some (v, s) => RunO O md r fs (s.setT d v) Q
  | none => False
end
section
variable {O : Oracle} {md : Nat → Mode} {st : St} {Q : Ex → St → Prop} {fs : List Fr}
@[simp] theorem RunC_skip : RunC O md .skip fs st Q = RunE O md .normal fs st Q := Wp_skip
theorem Wp_ren (s t : Nat) : RunC O md (.ren s t) fs st Q = (renOk st s t = true ∧ RunE O md .normal fs (st.ren s t) Q) := by
  apply propext
  constructor
  · rintro ⟨e, s', h1, h2⟩
    simp only [exec] at h1
    split at h1
    · rename_i hk
      cases h1
      exact ⟨hk, h2⟩
    · cases h1
  · rintro ⟨hk, h⟩
    exact ⟨.normal, _, by simp only [exec]; rw [if_pos hk], h⟩
@[simp] theorem RunC_ren (s t : Nat) : RunC O md (.ren s t) fs st Q = (renOk st s t = true ∧ RunE O md .normal fs (st.ren s t) Q) := Wp_ren s t
@[simp] theorem RunC_ret : RunC O md .ret fs st Q = RunE O md .ret fs st Q := Wp_ret
@[simp] theorem RunC_exit (id : Nat) : RunC O md (.exit id) fs st Q = RunE O md (.exit id) fs st Q := Wp_exit id
@[simp] theorem RunC_reg (ops : List IOp) : RunC O md (.reg ops) fs st Q = RunO O md ops fs st Q := Wp_reg ops
@[simp] theorem RunC_seq (a b : C) : RunC O md (.seq a b) fs st Q = RunC O md a (.c b :: fs) st Q := Wp_seq a b
@[simp] theorem RunC_block (id : Nat) (a : C) : RunC O md (.block id a) fs st Q = RunC O md a (.blk id :: fs) st Q := Wp_block id a
@[simp] theorem RunC_cond (c : X) (a b : C) : RunC O md (.cond c a b) fs st Q = RunB O md (evalX st c) a b fs st Q := Wp_cond c a b
@[simp] theorem RunE_nil (e : Ex) : RunE O md e [] st Q = Q e st := rfl
@[simp] theorem RunE_nc (c : C) : RunE O md .normal (.c c :: fs) st Q = RunC O md c fs st Q := rfl
@[simp] theorem RunE_rc (c : C) : RunE O md .ret (.c c :: fs) st Q = RunE O md .ret fs st Q := rfl
@[simp] theorem RunE_ec (c : C) (id : Nat) : RunE O md (.exit id) (.c c :: fs) st Q = RunE O md (.exit id) fs st Q := rfl
@[simp] theorem RunE_nb (id : Nat) : RunE O md .normal (.blk id :: fs) st Q = RunE O md .normal fs st Q := rfl
@[simp] theorem RunE_rb (id : Nat) : RunE O md .ret (.blk id :: fs) st Q = RunE O md .ret fs st Q := rfl
@[simp] theorem RunE_eb (id j : Nat) : RunE O md (.exit j) (.blk id :: fs) st Q = if j = id then RunE O md .normal fs st Q else RunE O md (.exit j) fs st Q := rfl
@[simp] theorem RunB_true (a b : C) : RunB O md (.bool true) a b fs st Q = RunC O md a fs st Q := condQ_true _ _
@[simp] theorem RunB_false (a b : C) : RunB O md (.bool false) a b fs st Q = RunC O md b fs st Q := condQ_false _ _
theorem RunB_ncase {v : Bool} {a b : C} (h : v = false → RunC O md a fs st Q) (h' : v = true → RunC O md b fs st Q) : RunB O md (.bool (!v)) a b fs st Q := by
  cases v
  · exact ⟨fun _ => h rfl, fun e => by cases e⟩
  · exact ⟨fun e => (by cases e), fun _ => h' rfl⟩
theorem RunB_case {v : Bool} {a b : C} (h : v = true → RunC O md a fs st Q) (h' : v = false → RunC O md b fs st Q) : RunB O md (.bool v) a b fs st Q := ⟨h, h'⟩
@[simp] theorem RunG_true (op : IOp) (r : List IOp) : RunG O md (some true) op r fs st Q = RunO O md (op :: r) fs st Q := gQ_true _ _
@[simp] theorem RunG_false (op : IOp) (r : List IOp) : RunG O md (some false) op r fs st Q = RunO O md r fs (st.setT op.dst .skp) Q := gQ_false _ _
theorem RunG_ncase {v : Bool} {op : IOp} {r : List IOp} (h : v = false → RunO O md (op :: r) fs st Q) (h' : v = true → RunO O md r fs (st.setT op.dst .skp) Q) : RunG O md (some (!v)) op r fs st Q := by
  cases v
  · exact ⟨fun _ => h rfl, fun e => by cases e⟩
  · exact ⟨fun e => (by cases e), fun _ => h' rfl⟩
theorem RunG_case {v : Bool} {op : IOp} {r : List IOp} (h : v = true → RunO O md (op :: r) fs st Q) (h' : v = false → RunO O md r fs (st.setT op.dst .skp) Q) : RunG O md (some v) op r fs st Q := ⟨h, h'⟩
@[simp] theorem RunP_true (d : Option Nat) (x y : AV) (r : List IOp) : RunP O md (.bool true) d x y r fs st Q = RunO O md r fs (st.setT d x) Q := condQ_true _ _
@[simp] theorem RunP_false (d : Option Nat) (x y : AV) (r : List IOp) : RunP O md (.bool false) d x y r fs st Q = RunO O md r fs (st.setT d y) Q := condQ_false _ _
theorem RunP_case {v : Bool} {d : Option Nat} {x y : AV} {r : List IOp} (h : v = true → RunO O md r fs (st.setT d x) Q) (h' : v = false → RunO O md r fs (st.setT d y) Q) : RunP O md (.bool v) d x y r fs st Q := ⟨h, h'⟩
@[simp] theorem RunV_some (v : AV) (d : Option Nat) (r : List IOp) : RunV O md (some v) d r fs st Q = RunO O md r fs (st.setT d v) Q := rfl
@[simp] theorem RunV_ite (c : Prop) [Decidable c] (o : Option AV) (d : Option Nat) (r : List IOp) : RunV O md (if c then o else none) d r fs st Q = (c ∧ RunV O md o d r fs st Q) := by
  by_cases h : c <;> simp [h, RunV]
@[simp] theorem RunV_nite (c : Prop) [Decidable c] (o : Option AV) (d : Option Nat) (r : List IOp) : RunV O md (if c then none else o) d r fs st Q = (¬ c ∧ RunV O md o d r fs st Q) := by
  by_cases h : c <;> simp [h, RunV]
@[simp] theorem RunQ_nil (v : AV) (d : Option Nat) (r : List IOp) : RunQ O md (some (v, [])) d r fs st Q = RunO O md r fs (st.setT d v) Q := rfl
@[simp] theorem RunQ_cons (v : AV) (d : Option Nat) (r : List IOp) (ts : List AV) (l : Heap) (e : List Heap) (s : Nat) (b : Blk) (n : List (Nat × Blk)) :
    RunQ O md (some (v, (s, b) :: n)) d r fs ⟨ts, l, e⟩ Q = (l.get s = none ∧ RunQ O md (some (v, n)) d r fs ⟨ts, l.set s (some b), e⟩ Q) := by
  simp only [RunQ, addNews_cons']
  cases Heap.get l s <;> simp
@[simp] theorem RunQ_ite (c : Prop) [Decidable c] (o : Option (AV × List (Nat × Blk))) (d : Option Nat) (r : List IOp) : RunQ O md (if c then o else none) d r fs st Q = (c ∧ RunQ O md o d r fs st Q) := by
  by_cases h : c <;> simp [h, RunQ]
@[simp] theorem RunQ_nite (c : Prop) [Decidable c] (o : Option (AV × List (Nat × Blk))) (d : Option Nat) (r : List IOp) : RunQ O md (if c then none else o) d r fs st Q = (¬ c ∧ RunQ O md o d r fs st Q) := by
  by_cases h : c <;> simp [h, RunQ]
@[simp] theorem RunK_nil (o : Option (AV × St)) (st : St) (f : Nat) (xs : List X) (fl : Bool) (d : Option Nat) (r : List IOp) : RunK O md o st (.call f xs fl) [] d r fs Q = RunW O md o d r fs Q := by
  cases o with
  | none => rfl
  | some p => obtain ⟨v, s⟩ := p; simp [RunK, RunW, keptOk, keptL]
@[simp] theorem RunK_some (v : AV) (s st : St) (f : Nat) (xs : List X) (fl : Bool) (x : X) (ap : List X) (d : Option Nat) (r : List IOp) : RunK O md (some (v, s)) st (.call f xs fl) (x :: ap) d r fs Q = (keptL st s (x :: ap) ∧ RunO O md r fs (s.setT d v) Q) := rfl
@[simp] theorem RunK_ite (c : Prop) [Decidable c] (o : Option (AV × St)) (st : St) (op : I) (ap : List X) (d : Option Nat) (r : List IOp) : RunK O md (if c then o else none) st op ap d r fs Q = (c ∧ RunK O md o st op ap d r fs Q) := by
  by_cases h : c <;> simp [h, RunK]
@[simp] theorem RunK_nite (c : Prop) [Decidable c] (o : Option (AV × St)) (st : St) (op : I) (ap : List X) (d : Option Nat) (r : List IOp) : RunK O md (if c then none else o) st op ap d r fs Q = (¬ c ∧ RunK O md o st op ap d r fs Q) := by
  by_cases h : c <;> simp [h, RunK]
@[simp] theorem RunW_some (v : AV) (s : St) (d : Option Nat) (r : List IOp) : RunW O md (some (v, s)) d r fs Q = RunO O md r fs (s.setT d v) Q := rfl
@[simp] theorem RunW_ite (c : Prop) [Decidable c] (o : Option (AV × St)) (d : Option Nat) (r : List IOp) : RunW O md (if c then o else none) d r fs Q = (c ∧ RunW O md o d r fs Q) := by
  by_cases h : c <;> simp [h, RunW]
@[simp] theorem RunW_nite (c : Prop) [Decidable c] (o : Option (AV × St)) (d : Option Nat) (r : List IOp) : RunW O md (if c then none else o) d r fs Q = (¬ c ∧ RunW O md o d r fs Q) := by
  by_cases h : c <;> simp [h, RunW]

variable {d : Option Nat} {b i : Nat} {ap : List X} {r : List IOp}
@[simp] theorem RunO_nil : RunO O md [] fs st Q = RunE O md .normal fs st Q := WpO_nil
@[simp] theorem RunO_guard (op : I) (g : Option Nat × Bool) : RunO O md (⟨d, op, some g, b, i, ap⟩ :: r) fs st Q = RunG O md (guardOf st (some g)) ⟨d, op, none, b, i, ap⟩ r fs st Q := WpO_guard _ _ _ _ _ _ _
theorem RunO_q (op : I) (hw : writes md op = false) : RunO O md (⟨d, op, none, b, i, ap⟩ :: r) fs st Q = (quietOk st op ap = true ∧ RunQ O md (evalQ O md st b op) d r fs st Q) := by
  unfold RunO RunQ
  rw [WpO_q _ _ _ _ _ _ hw]
  cases h : evalQ O md st b op with
  | none => simp
  | some p => obtain ⟨v, n⟩ := p; simp only [optQ_some]; cases h2 : addNews st n <;> simp [RunO]
theorem RunO_q0 (op : I) (hw : writes md op = false) : RunO O md (⟨d, op, none, b, i, []⟩ :: r) fs st Q = RunQ O md (evalQ O md st b op) d r fs st Q := by
  rw [RunO_q _ hw, quietOk_nil]; simp
theorem evalK_plain (op : I) (hc : ∀ st st', keptOk st st' op ap = True) : evalK O md st b op ap = evalV O md st b op := by
  unfold evalK
  cases h : evalV O md st b op with
  | none => rfl
  | some p => obtain ⟨v, s⟩ := p; simp only [hc]; simp
theorem RunO_w (op : I) (hw : writes md op = true) (hc : ∀ st st', keptOk st st' op ap = True) : RunO O md (⟨d, op, none, b, i, ap⟩ :: r) fs st Q = ((apartOk st op ap && keyedOk st ap) = true ∧ RunW O md (evalV O md st b op) d r fs Q) := by
  unfold RunO RunW
  rw [WpO_w _ _ _ _ _ _ hw, evalK_plain _ hc]
  cases h : evalV O md st b op with
  | none => simp
  | some p => obtain ⟨v, n⟩ := p; simp [RunO]
theorem RunO_k (op : I) (hw : writes md op = true) : RunO O md (⟨d, op, none, b, i, ap⟩ :: r) fs st Q = ((apartOk st op ap && keyedOk st ap) = true ∧ RunK O md (evalV O md st b op) st op ap d r fs Q) := by
  unfold RunO RunK
  rw [WpO_w _ _ _ _ _ _ hw]
  unfold evalK
  cases h : evalV O md st b op with
  | none => simp
  | some p =>
    obtain ⟨v, n⟩ := p
    simp only
    split
    · rename_i hk; simp [RunO, hk]
    · rename_i hk; simp [hk]
@[simp] theorem R_mv (x : X) : RunO O md (⟨d, .mv x, none, b, i, []⟩ :: r) fs st Q = RunO O md r fs (st.setT d (evalX st x)) Q := by
  rw [RunO_q0 _ rfl]; simp [evalQ]
@[simp] theorem R_bin (op : BinOp) (x y : X) : RunO O md (⟨d, .bin op x y, none, b, i, []⟩ :: r) fs st Q = RunV O md (evalBin op (evalX st x) (evalX st y)) d r fs st Q := by
  rw [RunO_q0 _ rfl]; simp only [evalQ]; cases evalBin op (evalX st x) (evalX st y) <;> simp [RunQ, RunV]
@[simp] theorem R_eqv (neg ag : Bool) (ks : List K3) (x y : X) : RunO O md (⟨d, .eqv neg ag ks x y, none, b, i, []⟩ :: r) fs st Q = RunV O md ((evalEq ag ks (evalX st x) (evalX st y)).map fun v => .bool (if neg then !v else v)) d r fs st Q := by
  rw [RunO_q0 _ rfl]; simp only [evalQ]; cases evalEq ag ks (evalX st x) (evalX st y) <;> simp [RunQ, RunV]
@[simp] theorem R_pick (c x y : X) : RunO O md (⟨d, .pick c x y, none, b, i, []⟩ :: r) fs st Q = RunP O md (evalX st c) d (evalX st x) (evalX st y) r fs st Q := by
  rw [RunO_q0 _ rfl]; simp only [evalQ, RunP]
  cases evalX st c <;> simp [condQ, RunQ]
  rename_i v; cases v <;> simp
@[simp] theorem R_not (x : X) : RunO O md (⟨d, .not x, none, b, i, []⟩ :: r) fs st Q = RunQ O md (evalQ O md st b (.not x)) d r fs st Q := RunO_q0 _ rfl
@[simp] theorem R_neg (x : X) : RunO O md (⟨d, .neg x, none, b, i, []⟩ :: r) fs st Q = RunQ O md (evalQ O md st b (.neg x)) d r fs st Q := RunO_q0 _ rfl
@[simp] theorem R_conv (k : IntKind) (x : X) : RunO O md (⟨d, .conv k x, none, b, i, []⟩ :: r) fs st Q = RunQ O md (evalQ O md st b (.conv k x)) d r fs st Q := RunO_q0 _ rfl
@[simp] theorem R_strid (x : X) : RunO O md (⟨d, .strid x, none, b, i, []⟩ :: r) fs st Q = RunQ O md (evalQ O md st b (.strid x)) d r fs st Q := RunO_q0 _ rfl
@[simp] theorem R_s2b (x : X) : RunO O md (⟨d, .s2b x, none, b, i, []⟩ :: r) fs st Q = RunQ O md (evalQ O md st b (.s2b x)) d r fs st Q := RunO_q0 _ rfl
@[simp] theorem R_b2s (x : X) : RunO O md (⟨d, .b2s x, none, b, i, []⟩ :: r) fs st Q = RunQ O md (evalQ O md st b (.b2s x)) d r fs st Q := RunO_q0 _ rfl
@[simp] theorem R_nil0 (fl : Bool) (sz : Nat) : RunO O md (⟨d, .nil0 fl sz, none, b, i, []⟩ :: r) fs st Q = RunQ O md (evalQ O md st b (.nil0 fl sz)) d r fs st Q := RunO_q0 _ rfl
@[simp] theorem R_alloc (cs : List AV) : RunO O md (⟨d, .alloc cs, none, b, i, []⟩ :: r) fs st Q = RunQ O md (evalQ O md st b (.alloc cs)) d r fs st Q := RunO_q0 _ rfl
@[simp] theorem R_box (x : X) : RunO O md (⟨d, .box x, none, b, i, []⟩ :: r) fs st Q = RunQ O md (evalQ O md st b (.box x)) d r fs st Q := RunO_q0 _ rfl
@[simp] theorem R_build (z : List AV) (ps : List (Nat × Nat × X)) : RunO O md (⟨d, .build z ps, none, b, i, []⟩ :: r) fs st Q = RunQ O md (evalQ O md st b (.build z ps)) d r fs st Q := RunO_q0 _ rfl
@[simp] theorem R_bslice (fl : Bool) (sz : Nat) (z : List AV) (n : Nat) (ps : List (Nat × X)) : RunO O md (⟨d, .bslice fl sz z n ps, none, b, i, []⟩ :: r) fs st Q = RunQ O md (evalQ O md st b (.bslice fl sz z n ps)) d r fs st Q := RunO_q0 _ rfl
@[simp] theorem R_load (n : Nat) (ag : Bool) (x : X) : RunO O md (⟨d, .load n ag x, none, b, i, []⟩ :: r) fs st Q = RunQ O md (evalQ O md st b (.load n ag x)) d r fs st Q := RunO_q0 _ rfl
@[simp] theorem R_nilck (x : X) : RunO O md (⟨d, .nilck x, none, b, i, []⟩ :: r) fs st Q = RunQ O md (evalQ O md st b (.nilck x)) d r fs st Q := RunO_q0 _ rfl
@[simp] theorem R_mkf (f : Nat) (cs : List X) : RunO O md (⟨d, .mkf f cs, none, b, i, []⟩ :: r) fs st Q = RunQ O md (evalQ O md st b (.mkf f cs)) d r fs st Q := RunO_q0 _ rfl
@[simp] theorem R_mksl (fl : Bool) (sz n : Nat) (z : List AV) (x y : X) : RunO O md (⟨d, .mksl fl sz n z x y, none, b, i, []⟩ :: r) fs st Q = RunQ O md (evalQ O md st b (.mksl fl sz n z x y)) d r fs st Q := RunO_q0 _ rfl
@[simp] theorem R_cut (sz : Nat) (x : X) (lo hi : Option X) : RunO O md (⟨d, .cut sz x lo hi, none, b, i, []⟩ :: r) fs st Q = RunQ O md (evalQ O md st b (.cut sz x lo hi)) d r fs st Q := RunO_q0 _ rfl
@[simp] theorem R_cut3 (sz : Nat) (x : X) (lo : Option X) (hi m : X) : RunO O md (⟨d, .cut3 sz x lo hi m, none, b, i, []⟩ :: r) fs st Q = RunQ O md (evalQ O md st b (.cut3 sz x lo hi m)) d r fs st Q := RunO_q0 _ rfl
@[simp] theorem R_clr (sz : Nat) (z : List AV) (x : X) : RunO O md (⟨d, .clr sz z x, none, b, i, ap⟩ :: r) fs st Q = ((apartOk st (.clr sz z x) ap && keyedOk st ap) = true ∧ RunW O md (evalW O md st b (.clr sz z x)) d r fs Q) := RunO_w _ rfl fun _ _ => rfl
@[simp] theorem R_cutm (sz : Nat) (x hi : X) (m : Option X) : RunO O md (⟨d, .cutm sz x hi m, none, b, i, ap⟩ :: r) fs st Q = ((apartOk st (.cutm sz x hi m) ap && keyedOk st ap) = true ∧ RunW O md (evalV O md st b (.cutm sz x hi m)) d r fs Q) := RunO_w _ rfl fun _ _ => rfl
@[simp] theorem R_scut (x : X) (lo hi : Option X) : RunO O md (⟨d, .scut x lo hi, none, b, i, []⟩ :: r) fs st Q = RunQ O md (evalQ O md st b (.scut x lo hi)) d r fs st Q := RunO_q0 _ rfl
@[simp] theorem R_faddr (n : Nat) (x : X) : RunO O md (⟨d, .faddr n x, none, b, i, []⟩ :: r) fs st Q = RunQ O md (evalQ O md st b (.faddr n x)) d r fs st Q := RunO_q0 _ rfl
@[simp] theorem R_field (o n : Nat) (ag : Bool) (x : X) : RunO O md (⟨d, .field o n ag x, none, b, i, []⟩ :: r) fs st Q = RunQ O md (evalQ O md st b (.field o n ag x)) d r fs st Q := RunO_q0 _ rfl
@[simp] theorem R_iaddr (sz : Nat) (x y : X) : RunO O md (⟨d, .iaddr sz x y, none, b, i, []⟩ :: r) fs st Q = RunQ O md (evalQ O md st b (.iaddr sz x y)) d r fs st Q := RunO_q0 _ rfl
@[simp] theorem R_idx (x y : X) : RunO O md (⟨d, .idx x y, none, b, i, []⟩ :: r) fs st Q = RunQ O md (evalQ O md st b (.idx x y)) d r fs st Q := RunO_q0 _ rfl
@[simp] theorem R_ext (x : X) (n : Nat) : RunO O md (⟨d, .ext x n, none, b, i, []⟩ :: r) fs st Q = RunQ O md (evalQ O md st b (.ext x n)) d r fs st Q := RunO_q0 _ rfl
@[simp] theorem R_max (x y : X) : RunO O md (⟨d, .max x y, none, b, i, []⟩ :: r) fs st Q = RunQ O md (evalQ O md st b (.max x y)) d r fs st Q := RunO_q0 _ rfl
@[simp] theorem R_min (x y : X) : RunO O md (⟨d, .min x y, none, b, i, []⟩ :: r) fs st Q = RunQ O md (evalQ O md st b (.min x y)) d r fs st Q := RunO_q0 _ rfl
@[simp] theorem R_len (s : Bool) (x : X) : RunO O md (⟨d, .len s x, none, b, i, []⟩ :: r) fs st Q = RunQ O md (evalQ O md st b (.len s x)) d r fs st Q := by cases s <;> exact RunO_q0 _ rfl
@[simp] theorem R_store (n : Nat) (a x : X) : RunO O md (⟨d, .store n a x, none, b, i, ap⟩ :: r) fs st Q = ((apartOk st (.store n a x) ap && keyedOk st ap) = true ∧ RunW O md (evalW O md st b (.store n a x)) d r fs Q) := RunO_w _ rfl fun _ _ => rfl
@[simp] theorem R_app (fl : Bool) (sz n : Nat) (a x : X) : RunO O md (⟨d, .app fl sz n a x, none, b, i, ap⟩ :: r) fs st Q = ((apartOk st (.app fl sz n a x) ap && keyedOk st ap) = true ∧ RunW O md (evalW O md st b (.app fl sz n a x)) d r fs Q) := RunO_w _ rfl fun _ _ => rfl
@[simp] theorem R_stm (n : Nat) (a x : X) : RunO O md (⟨d, .stm n a x, none, b, i, ap⟩ :: r) fs st Q = ((apartOk st (.stm n a x) ap && keyedOk st ap) = true ∧ RunW O md (evalV O md st b (.stm n a x)) d r fs Q) := RunO_w _ rfl fun _ _ => rfl
@[simp] theorem R_apm (fl : Bool) (sz n : Nat) (a x : X) : RunO O md (⟨d, .apm fl sz n a x, none, b, i, ap⟩ :: r) fs st Q = ((apartOk st (.apm fl sz n a x) ap && keyedOk st ap) = true ∧ RunW O md (evalV O md st b (.apm fl sz n a x)) d r fs Q) := RunO_w _ rfl fun _ _ => rfl
@[simp] theorem R_bsm (fl : Bool) (sz : Nat) (z : List AV) (n : Nat) (ps : List (Nat × X)) : RunO O md (⟨d, .bsm fl sz z n ps, none, b, i, []⟩ :: r) fs st Q = RunQ O md (evalQ O md st b (.bsm fl sz z n ps)) d r fs st Q := RunO_q0 _ rfl
@[simp] theorem R_callv (x : X) (xs : List X) (fl : Bool) : RunO O md (⟨d, .callv x xs fl, none, b, i, ap⟩ :: r) fs st Q = ((apartOk st (.callv x xs fl) ap && keyedOk st ap) = true ∧ RunW O md (evalW O md st b (.callv x xs fl)) d r fs Q) := RunO_w _ rfl fun _ _ => rfl
/-- A call by value. -/
theorem R_call (f : Nat) (xs : List X) (fl : Bool) (hm : md f = .val) : RunO O md (⟨d, .call f xs fl, none, b, i, ap⟩ :: r) fs st Q = (quietOk st (.call f xs fl) ap = true ∧ RunQ O md (callVal O st b f (evalXs st xs) fl) d r fs st Q) := by
  rw [RunO_q _ (by simp [writes, hm])]; simp only [evalQ, hm]
theorem R_callr (f : Nat) (xs : List X) (fl : Bool) (hm : md f = .ref) : RunO O md (⟨d, .call f xs fl, none, b, i, ap⟩ :: r) fs st Q = ((apartOk st (.call f xs fl) ap && keyedOk st ap) = true ∧ RunK O md (callRef O st b f (evalXs st xs) fl) st (.call f xs fl) ap d r fs Q) := by
  rw [RunO_k _ (by simp [writes, hm])]; simp only [evalV, evalW, hm]
theorem R_callv' (f : Nat) (xs : List X) (fl : Bool) (hm : md f = .view) : RunO O md (⟨d, .call f xs fl, none, b, i, ap⟩ :: r) fs st Q = (quietOk st (.call f xs fl) ap = true ∧ RunV O md (callView O st f (evalXs st xs)) d r fs st Q) := by
  rw [RunO_q _ (by simp [writes, hm])]; simp only [evalQ, hm]
  cases callView O st f (evalXs st xs) <;> simp [RunQ, RunV]
/-- With hints. -/
theorem R_hint (op : I) (x : X) (hw : writes md op = false) : RunO O md (⟨d, op, none, b, i, x :: ap⟩ :: r) fs st Q = (quietOk st op (x :: ap) = true ∧ RunQ O md (evalQ O md st b op) d r fs st Q) := RunO_q _ hw
@[simp] theorem R_hload (n : Nat) (ag : Bool) (y x : X) : RunO O md (⟨d, .load n ag y, none, b, i, x :: ap⟩ :: r) fs st Q = (quietOk st (.load n ag y) (x :: ap) = true ∧ RunQ O md (evalQ O md st b (.load n ag y)) d r fs st Q) := RunO_q _ rfl
@[simp] theorem R_hfaddr (n : Nat) (y x : X) : RunO O md (⟨d, .faddr n y, none, b, i, x :: ap⟩ :: r) fs st Q = (quietOk st (.faddr n y) (x :: ap) = true ∧ RunQ O md (evalQ O md st b (.faddr n y)) d r fs st Q) := RunO_q _ rfl
@[simp] theorem R_hiaddr (n : Nat) (y z x : X) : RunO O md (⟨d, .iaddr n y z, none, b, i, x :: ap⟩ :: r) fs st Q = (quietOk st (.iaddr n y z) (x :: ap) = true ∧ RunQ O md (evalQ O md st b (.iaddr n y z)) d r fs st Q) := RunO_q _ rfl
@[simp] theorem R_hlen (y x : X) : RunO O md (⟨d, .len false y, none, b, i, x :: ap⟩ :: r) fs st Q = (quietOk st (.len false y) (x :: ap) = true ∧ RunQ O md (evalQ O md st b (.len false y)) d r fs st Q) := RunO_q _ rfl
@[simp] theorem R_hcut (n : Nat) (y : X) (lo hi : Option X) (x : X) : RunO O md (⟨d, .cut n y lo hi, none, b, i, x :: ap⟩ :: r) fs st Q = (quietOk st (.cut n y lo hi) (x :: ap) = true ∧ RunQ O md (evalQ O md st b (.cut n y lo hi)) d r fs st Q) := RunO_q _ rfl
@[simp] theorem R_hbslice (fl : Bool) (sz : Nat) (z : List AV) (n : Nat) (ps : List (Nat × X)) (x : X) : RunO O md (⟨d, .bslice fl sz z n ps, none, b, i, x :: ap⟩ :: r) fs st Q = (quietOk st (.bslice fl sz z n ps) (x :: ap) = true ∧ RunQ O md (evalQ O md st b (.bslice fl sz z n ps)) d r fs st Q) := RunO_q _ rfl
end
@[simp] theorem evalV_cutm (O : Oracle) (md : Nat → Mode) (st : St) (base sz : Nat) (x hi : X) (m : Option X) : evalV O md st base (.cutm sz x hi m) = cutM st sz (evalX st x) (evalX st hi) (evalO st m) := rfl
@[simp] theorem evalV_stm (O : Oracle) (md : Nat → Mode) (st : St) (base n : Nat) (a x : X) : evalV O md st base (.stm n a x) = match storeM st n (evalX st a) (evalX st x) with
    | some r => some r
    | none => evalW O md st base (.store n a x) := rfl
@[simp] theorem evalV_apm (O : Oracle) (md : Nat → Mode) (st : St) (base : Nat) (fl : Bool) (sz bytes : Nat) (s x : X) : evalV O md st base (.apm fl sz bytes s x) = match evalW O md st base (.app fl sz bytes s x) with
    | some r => some r
    | none => match appM st base fl sz bytes (evalX st s) (evalX st x) with
      | some r => some r
      | none => appC st fl sz bytes (evalX st s) (evalX st x) := rfl
@[simp] theorem evalW_store (O : Oracle) (md : Nat → Mode) (st : St) (base n : Nat) (a x : X) : evalW O md st base (.store n a x) = match evalX st a, (evalX st x).cells with
    | .ptr lv s ver p i c, some ws => match st.at lv s ver p with
      | some (b, ys) => match ys[i]? with
        | some row => if c + n ≤ row.length ∧ ws.length = n ∧ ws.all AV.one then
            if b.box then
              if lv ≠ 0 then (if ws.all AV.scal then some (.skp, st.put lv s (some { b with elems := ys.set i (row.take c ++ ws ++ row.drop (c + n)) })) else none)
              else match boxCells (base + 1) ws with
              | some (cs, news) => match addNews st news with
                | some st' => some (.skp, st'.put lv s (some { b with elems := ys.set i (row.take c ++ cs ++ row.drop (c + n)) }))
                | none => none
              | none => none
            else match p with
              | [] => match rowCells b.fl ws with
                | some cs => some (.skp, st.put lv s (some { b with ver := if b.fl then b.ver else b.ver + 1, elems := ys.set i (row.take c ++ cs ++ row.drop (c + n)) }))
                | none => none
              | _ => none
          else none
        | none => none
      | none => none
    | _, _ => none := rfl
/-- What a round of a loop comes to: another round, or the loop is left. -/
def LoopPost {α : Type} (O : Oracle) (md : Nat → Mode) (kt ks : List Nat) (S : α → St) (I : α → Prop) (μ : α → Nat) (m : Nat) (fs : List Fr) (Q : Ex → St → Prop) (e : Ex) (s : St) : Prop := match e with
  | .normal => ∃ a, I a ∧ μ a < m ∧ s.clean kt ks = S a
  | e => RunE O md e fs s Q
section
variable {O : Oracle} {md : Nat → Mode} {st : St} {Q : Ex → St → Prop} {fs : List Fr} {α : Type} {kt ks : List Nat} {S : α → St} {I : α → Prop} {μ : α → Nat} {m : Nat}
@[simp] theorem LoopPost_normal (s : St) : LoopPost O md kt ks S I μ m fs Q .normal s = ∃ a, I a ∧ μ a < m ∧ s.clean kt ks = S a := rfl
@[simp] theorem LoopPost_ret (s : St) : LoopPost O md kt ks S I μ m fs Q .ret s = RunE O md .ret fs s Q := rfl
@[simp] theorem LoopPost_exit (id : Nat) (s : St) : LoopPost O md kt ks S I μ m fs Q (.exit id) s = RunE O md (.exit id) fs s Q := rfl
theorem RunC_loop {c : C} (S : α → St) (I : α → Prop) (μ : α → Nat) (a0 : α) (h0 : I a0) (hm : μ a0 < LF) (hc : st.clean kt ks = S a0)
    (step : ∀ a, I a → μ a ≤ μ a0 → RunC O md c [] (S a) (LoopPost O md kt ks S I μ (μ a) fs Q)) : RunC O md (.loop kt ks c) fs st Q := by
  have main : ∀ n a st, n < LF → I a → μ a ≤ μ a0 → μ a ≤ n → st.clean kt ks = S a → ∀ f, n < f → ∃ e st', iter (St.clean kt ks) (exec O md c) f st = some (e, st') ∧ kont O md Q fs e st' := by
    intro n
    induction n with
    | zero =>
      intro a st hn hI hle hz hcl f hf
      obtain ⟨f, rfl⟩ : ∃ g, f = g + 1 := ⟨f - 1, by omega⟩
      obtain ⟨e, s, h1, h2⟩ := step a hI hle
      simp only [iter]
      rw [hcl, h1]
      simp only [kont] at h2
      cases e with
      | normal => obtain ⟨a', _, h, _⟩ := h2; omega
      | exit j => exact ⟨_, _, rfl, h2⟩
      | ret => exact ⟨_, _, rfl, h2⟩
    | succ n ih =>
      intro a st hn hI hle hz hcl f hf
      obtain ⟨f, rfl⟩ : ∃ g, f = g + 1 := ⟨f - 1, by omega⟩
      obtain ⟨e, s, h1, h2⟩ := step a hI hle
      simp only [iter]
      rw [hcl, h1]
      simp only [kont] at h2
      cases e with
      | normal =>
        obtain ⟨a', h3, h4, h5⟩ := h2
        exact ih a' s (by omega) h3 (by omega) (by omega) h5 f (by omega)
      | exit j => exact ⟨_, _, rfl, h2⟩
      | ret => exact ⟨_, _, rfl, h2⟩
  obtain ⟨e, s, h1, h2⟩ := main (μ a0) a0 st hm h0 (Nat.le_refl _) (Nat.le_refl _) hc LF hm
  exact ⟨e, s, by simpa only [exec] using h1, h2⟩
end
/-- A loop that is left in its first round. -/
def OncePost (O : Oracle) (md : Nat → Mode) (fs : List Fr) (Q : Ex → St → Prop) (e : Ex) (s : St) : Prop := match e with
  | .normal => False
  | e => RunE O md e fs s Q
section
variable {O : Oracle} {md : Nat → Mode} {st : St} {Q : Ex → St → Prop} {fs : List Fr} {kt ks : List Nat}
@[simp] theorem OncePost_ret (s : St) : OncePost O md fs Q .ret s = RunE O md .ret fs s Q := rfl
@[simp] theorem OncePost_exit (id : Nat) (s : St) : OncePost O md fs Q (.exit id) s = RunE O md (.exit id) fs s Q := rfl
theorem RunC_once {c : C} (h : RunC O md c [] (st.clean kt ks) (OncePost O md fs Q)) : RunC O md (.loop kt ks c) fs st Q := by
  refine RunC_loop (fun _ : Unit => st.clean kt ks) (fun _ => True) (fun _ => 0) () trivial (by decide) rfl fun _ _ _ => ?_
  obtain ⟨e, s, h1, h2⟩ := h
  refine ⟨e, s, h1, ?_⟩
  cases e with
  | normal => exact absurd h2 (fun h => h)
  | _ => exact h2
end
theorem wrap64 {n : Int} (h : -9223372036854775808 ≤ n ∧ n ≤ 9223372036854775807) : IntKind.wrap .i64 n = n := by
  simp only [IntKind.wrap, IntKind.signed, IntKind.bits, IntKind.min, IntKind.max] at *
  simp
  omega
theorem wf64 {n : Int} (h : (Lit.int .i64 n).wf = true) : -9223372036854775808 ≤ n ∧ n ≤ 9223372036854775807 := by
  simp [Lit.wf, IntKind.min, IntKind.max, IntKind.signed, IntKind.bits] at h
  omega
attribute [simp] quietOk readsAt rootsOk keyedOk placeOf keptL
attribute [simp] callRef injR shiftR
attribute [simp] St.ren renR renN renH renOk St.clean cleanT cleanH scrubR callVal mapO reify numbered AV.bears AV.bearss AV.stable AV.stables LF
theorem bget (s : ByteArray) (i : Nat) : s[i]? = s.data.toList[i]? := by
  by_cases h : i < s.size
  · have h2 : i < s.data.toList.length := by simpa using h
    rw [List.getElem?_eq_getElem h2]
    rw [getElem?_pos s i h]
    rfl
  · have h2 : ¬ i < s.data.toList.length := by simpa using h
    rw [List.getElem?_eq_none (by omega), getElem?_neg s i h]
theorem bget_lt {s : ByteArray} {i : Nat} (h : i < s.size) : ∃ c, s[i]? = some c ∧ s.data.toList[i]? = some c := by
  have h2 : i < s.data.toList.length := by simpa using h
  exact ⟨s.data.toList[i], by rw [bget, List.getElem?_eq_getElem h2], List.getElem?_eq_getElem h2⟩
theorem bget_pos {s : ByteArray} {i : Nat} (h : i < s.size) : s.data.toList[i]? = some s[i] := by
  rw [← bget, getElem?_pos s i h]
theorem all_false {α : Type} {l : List α} {p : α → Bool} {i : Nat} {c : α} (h : l[i]? = some c) (hp : p c = false) : l.all p = false := by
  rw [List.all_eq_false]
  exact ⟨c, List.mem_of_getElem? h, by simp [hp]⟩
theorem FitsAll.cons_inv {c : CS} {cs : List CS} {vs : List AV} (h : FitsAll (c :: cs) vs) : ∃ v r, vs = v :: r ∧ Fits c v ∧ FitsAll cs r := by
  cases h with
  | cons h1 h2 => exact ⟨_, _, rfl, h1, h2⟩
theorem FitsAll.nil_inv {vs : List AV} (h : FitsAll [] vs) : vs = [] := by cases h; rfl
theorem Fits.int_inv {k : IntKind} {v : AV} (h : Fits (.int k) v) : ∃ n, v = .int k n ∧ (Lit.int k n).wf = true := by cases h with | int h => exact ⟨_, rfl, h⟩
theorem Fits.i64_inv {v : AV} (h : Fits (.int .i64) v) : ∃ n, v = .int .i64 n ∧ (-9223372036854775808 ≤ n ∧ n ≤ 9223372036854775807) := by
  obtain ⟨n, rfl, hw⟩ := h.int_inv
  refine ⟨n, rfl, ?_⟩
  simp [Lit.wf, IntKind.min, IntKind.max, IntKind.signed, IntKind.bits] at hw
  omega
theorem Fits.bool_inv {v : AV} (h : Fits .bool v) : ∃ b, v = .bool b := by cases h with | bool b => exact ⟨b, rfl⟩
theorem Fits.str_inv {v : AV} (h : Fits .str v) : ∃ s : ByteArray, v = .str s ∧ s.size ≤ 140737488351232 := by cases h with | str h => exact ⟨_, rfl, h⟩
theorem Fits.sl_inv {n : Nat} {es : List CS} {v : AV} (h : Fits (.sl n es) v) : ∃ xs : List (List AV), v = .rd (es.all CS.scal) xs ∧ xs.length * n ≤ 140737488351232 ∧ ∀ r ∈ xs, FitsAll es r := by cases h with | sl h h' => exact ⟨_, rfl, h, h'⟩
theorem PFitsAll.cons_inv {p : Bool × List CS} {ps : List (Bool × List CS)} {vs : List AV} (h : PFitsAll (p :: ps) vs) : ∃ v r, vs = v :: r ∧ PFits p v ∧ PFitsAll ps r := by
  cases vs with
  | nil => exact absurd h (by simp [PFitsAll])
  | cons v r => exact ⟨v, r, rfl, h.1, h.2⟩
theorem PFitsAll.nil_inv {vs : List AV} (h : PFitsAll [] vs) : vs = [] := by cases vs with | nil => rfl | cons => exact absurd h (by simp [PFitsAll])
theorem PFits.agg_inv {cs : List CS} {v : AV} (h : PFits (true, cs) v) : ∃ avs, v = .agg avs ∧ FitsAll cs avs := h
theorem PFits.one_inv {c : CS} {v : AV} (h : PFits (false, [c]) v) : Fits c v := by
  obtain ⟨_, _, e, h1, _⟩ := FitsAll.cons_inv (show FitsAll [c] [v] from h); cases e; exact h1
theorem ofNat_succ (n : Nat) : ((n : Int) + 1) = ((n + 1 : Nat) : Int) := by omega
/-- All of the first i. -/
theorem all_iff {α : Type} {l : List α} {p : α → Bool} : l.all p = true ↔ ∀ (i : Nat) (c : α), l[i]? = some c → p c = true := by
  rw [List.all_eq_true]
  constructor
  · intro h i c hc; exact h c (List.mem_of_getElem? hc)
  · intro h c hc; obtain ⟨i, hi⟩ := List.getElem?_of_mem hc; exact h i c hi
@[simp] theorem mapR_box (g : Nat → Nat → Nat → Path → Option (Nat × Nat × Nat)) (v sz : Nat) (fl : Bool) (el : List (List AV)) : Blk.mapR g ⟨v, sz, true, fl, el⟩ = ⟨v, sz, true, fl, el.map fun r => AV.mapRs g r⟩ := rfl
@[simp] theorem mapR_nobox (g : Nat → Nat → Nat → Path → Option (Nat × Nat × Nat)) (v sz : Nat) (fl : Bool) (el : List (List AV)) : Blk.mapR g ⟨v, sz, false, fl, el⟩ = ⟨v, sz, false, fl, el⟩ := rfl
/-! #### operators -/
def gAnd (k : IntKind) (a b : Int) : Int := k.wrap (BitVec.ofInt k.bits a &&& BitVec.ofInt k.bits b).toNat
def gOr (k : IntKind) (a b : Int) : Int := k.wrap (BitVec.ofInt k.bits a ||| BitVec.ofInt k.bits b).toNat
def gXor (k : IntKind) (a b : Int) : Int := k.wrap (BitVec.ofInt k.bits a ^^^ BitVec.ofInt k.bits b).toNat
def gShl (k : IntKind) (a b : Int) : Int := k.wrap (a * 2 ^ (Nat.min b.toNat k.bits))
def gShr (k : IntKind) (a b : Int) : Int := a.fdiv (2 ^ (Nat.min b.toNat k.bits))
section
variable (k k' : IntKind) (a b : Int) (s t : ByteArray)
@[simp] theorem evalBin_add : evalBin .add (.int k a) (.int k b) = some (.int k (k.wrap (a + b))) := by simp [evalBin]
@[simp] theorem evalBin_sub : evalBin .sub (.int k a) (.int k b) = some (.int k (k.wrap (a - b))) := by simp [evalBin]
@[simp] theorem evalBin_mul : evalBin .mul (.int k a) (.int k b) = some (.int k (k.wrap (a * b))) := by simp [evalBin]
@[simp] theorem evalBin_quo : evalBin .quo (.int k a) (.int k b) = if b = 0 then none else some (.int k (k.wrap (a.tdiv b))) := by simp [evalBin]
@[simp] theorem evalBin_rem : evalBin .rem (.int k a) (.int k b) = if b = 0 then none else some (.int k (a.tmod b)) := by simp [evalBin]
@[simp] theorem evalBin_and : evalBin .and (.int k a) (.int k b) = some (.int k (gAnd k a b)) := by simp [evalBin, gAnd]
@[simp] theorem evalBin_or : evalBin .or (.int k a) (.int k b) = some (.int k (gOr k a b)) := by simp [evalBin, gOr]
@[simp] theorem evalBin_xor : evalBin .xor (.int k a) (.int k b) = some (.int k (gXor k a b)) := by simp [evalBin, gXor]
@[simp] theorem evalBin_shl : evalBin .shl (.int k a) (.int k' b) = if 0 ≤ b then some (.int k (gShl k a b)) else none := by simp [evalBin, gShl]
@[simp] theorem evalBin_shr : evalBin .shr (.int k a) (.int k' b) = if 0 ≤ b then some (.int k (gShr k a b)) else none := by simp [evalBin, gShr]
@[simp] theorem evalBin_eql : evalBin .eql (.int k a) (.int k b) = some (.bool (a == b)) := by simp [evalBin]
@[simp] theorem evalBin_neq : evalBin .neq (.int k a) (.int k b) = some (.bool (a != b)) := by simp [evalBin]
@[simp] theorem evalBin_lss : evalBin .lss (.int k a) (.int k b) = some (.bool (decide (a < b))) := by simp [evalBin]
@[simp] theorem evalBin_leq : evalBin .leq (.int k a) (.int k b) = some (.bool (decide (a ≤ b))) := by simp [evalBin]
@[simp] theorem evalBin_gtr : evalBin .gtr (.int k a) (.int k b) = some (.bool (decide (b < a))) := by simp [evalBin]
@[simp] theorem evalBin_geq : evalBin .geq (.int k a) (.int k b) = some (.bool (decide (b ≤ a))) := by simp [evalBin]
@[simp] theorem evalBin_sadd : evalBin .add (.str s) (.str t) = if ((s.size + t.size : Nat) : Int) > IntKind.i64.max then none else some (.str (s ++ t)) := rfl
@[simp] theorem evalBin_seql : evalBin .eql (.str s) (.str t) = some (.bool (s.toList == t.toList)) := rfl
@[simp] theorem evalBin_sneq : evalBin .neq (.str s) (.str t) = some (.bool (!(s.toList == t.toList))) := rfl
@[simp] theorem evalBin_slss : evalBin .lss (.str s) (.str t) = some (.bool (Op.bytesLess s.toList t.toList)) := rfl
@[simp] theorem evalBin_sleq : evalBin .leq (.str s) (.str t) = some (.bool (Op.bytesLess s.toList t.toList || s.toList == t.toList)) := rfl
@[simp] theorem evalBin_sgtr : evalBin .gtr (.str s) (.str t) = some (.bool (!(Op.bytesLess s.toList t.toList || s.toList == t.toList))) := rfl
@[simp] theorem evalBin_sgeq : evalBin .geq (.str s) (.str t) = some (.bool (!(Op.bytesLess s.toList t.toList))) := rfl
end
theorem wrapU32 {n : Nat} : IntKind.wrap .u32 (n : Int) = ((n % 4294967296 : Nat) : Int) := by
  simp [IntKind.wrap, IntKind.signed, IntKind.bits]
theorem gXor64 {a b : Nat} (ha : a < 9223372036854775808) (hb : b < 9223372036854775808) : gXor .i64 a b = ((a ^^^ b : Nat) : Int) := by
  have h : a ^^^ b < 2 ^ 63 := Nat.xor_lt_two_pow (by omega) (by omega)
  have e : (BitVec.ofInt 64 (a : Int) ^^^ BitVec.ofInt 64 (b : Int)).toNat = a ^^^ b := by
    rw [BitVec.toNat_xor, BitVec.ofInt_natCast, BitVec.ofInt_natCast, BitVec.toNat_ofNat, BitVec.toNat_ofNat, Nat.mod_eq_of_lt (by omega), Nat.mod_eq_of_lt (by omega)]
  show IntKind.wrap .i64 ((BitVec.ofInt 64 (a : Int) ^^^ BitVec.ofInt 64 (b : Int)).toNat : Int) = _
  rw [e, wrap64 ⟨by omega, by omega⟩]
theorem gXor32 {a b : Nat} (ha : a < 4294967296) (hb : b < 4294967296) : gXor .u32 a b = ((a ^^^ b : Nat) : Int) := by
  have h : a ^^^ b < 2 ^ 32 := Nat.xor_lt_two_pow (by omega) (by omega)
  have e : (BitVec.ofInt 32 (a : Int) ^^^ BitVec.ofInt 32 (b : Int)).toNat = a ^^^ b := by
    rw [BitVec.toNat_xor, BitVec.ofInt_natCast, BitVec.ofInt_natCast, BitVec.toNat_ofNat, BitVec.toNat_ofNat, Nat.mod_eq_of_lt (by omega), Nat.mod_eq_of_lt (by omega)]
  show IntKind.wrap .u32 ((BitVec.ofInt 32 (a : Int) ^^^ BitVec.ofInt 32 (b : Int)).toNat : Int) = _
  rw [e, wrapU32, Nat.mod_eq_of_lt (by omega)]
theorem gAnd64 {a b : Nat} (ha : a < 9223372036854775808) (hb : b < 9223372036854775808) : gAnd .i64 a b = ((a &&& b : Nat) : Int) := by
  have h : a &&& b < 2 ^ 63 := Nat.and_lt_two_pow _ (by omega)
  have e : (BitVec.ofInt 64 (a : Int) &&& BitVec.ofInt 64 (b : Int)).toNat = a &&& b := by
    rw [BitVec.toNat_and, BitVec.ofInt_natCast, BitVec.ofInt_natCast, BitVec.toNat_ofNat, BitVec.toNat_ofNat, Nat.mod_eq_of_lt (by omega), Nat.mod_eq_of_lt (by omega)]
  show IntKind.wrap .i64 ((BitVec.ofInt 64 (a : Int) &&& BitVec.ofInt 64 (b : Int)).toNat : Int) = _
  rw [e, wrap64 ⟨by omega, by omega⟩]
theorem gShrN {k : IntKind} {a n : Nat} (h : n ≤ k.bits) : gShr k a n = ((a >>> n : Nat) : Int) := by
  unfold gShr
  have e : Nat.min ((n : Int).toNat) k.bits = n := Nat.min_eq_left h
  rw [e, Nat.shiftRight_eq_div_pow]
  have : ((2 : Int) ^ n) = ((2 ^ n : Nat) : Int) := by simp
  rw [this]
  exact (Int.ofNat_fdiv a (2 ^ n)).symm
attribute [simp] Heap.get Heap.set St.at navE cellAt evalQ AV.cells AV.ofCells boxCells outCells upR AV.one AV.scal AV.isNil apartOk wplaces rowCells evalEq eqCells eqCell evalXs evalP evalO fillCells fillRows zeroRow bound
/-- What is returned. -/
def fin (st : St) (res : List RV) : Option Res := match evalRVs st res with
  | some [v] => finish st v
  | some vs => finish st (.tup vs)
  | none => none
/-- The end of a call that answers r. -/
def Post (res : List RV) (r : Res) (e : Ex) (s : St) : Prop := match e with
  | .exit _ => False
  | _ => fin s res = some r
@[simp] theorem Post_normal (res : List RV) (r : Res) (s : St) : Post res r .normal s = (fin s res = some r) := rfl
@[simp] theorem Post_ret (res : List RV) (r : Res) (s : St) : Post res r .ret s = (fin s res = some r) := rfl
theorem exec_execs {O : Oracle} {md : Nat → Mode} : ∀ (c : C) (st : St) (p : Ex × St), exec O md c st = some p → execs O md c st = some [p]
  | .skip, st, p, h => by simp [execs, h]
  | .reg ops, st, p, h => by simp [execs, h]
  | .seq a b, st, p, h => by
    simp only [exec] at h
    simp only [execs]
    split at h
    · rename_i s hs
      rw [exec_execs a st _ hs]
      simp [bindAll, exec_execs b s p h]
    · rename_i r hr
      rw [exec_execs a st _ h]
      obtain ⟨e, s⟩ := p
      cases e with
      | normal => exact absurd h (hr s)
      | _ => simp [bindAll]
  | .cond c a b, st, p, h => by
    simp only [exec] at h
    simp only [execs]
    split at h
    · exact exec_execs a st p h
    · exact exec_execs b st p h
    · cases h
  | .block id c, st, p, h => by
    simp only [exec] at h
    simp only [execs]
    split at h
    · rename_i j s hs
      rw [exec_execs c st _ hs]
      split at h <;> cases h <;> simp_all
    · rename_i r hr
      rw [exec_execs c st _ h]
      obtain ⟨e, s⟩ := p
      cases e with
      | exit j => exact absurd h (hr j s)
      | _ => simp
  | .loop kt ks c, st, p, h => by simp [execs, h]
  | .exit id, st, p, h => by simp [execs, h]
  | .ret, st, p, h => by simp [execs, h]
  | .ren s t, st, p, h => by simp [execs, h]
  | .ifnil neg d x a b, st, p, h => by simp [exec] at h
theorem runF_wp {O : Oracle} {md : Nat → Mode} {F : F} {args : List AV} {E : List Heap} {res : Res} (hn : args.length = F.np)
    (h : Wp O md F.body ⟨args ++ List.replicate (F.ntmps - args.length) .skp, [], E⟩ fun e s => (match e with | .exit _ => False | _ => fin s F.res = some res)) : runF O md F args E = some res := by
  obtain ⟨e, s, h1, h2⟩ := h
  unfold runF
  rw [if_pos hn, exec_execs _ _ _ h1]
  cases e with
  | exit j => exact absurd h2 (by simp)
  | normal =>
    have h3 : finOf F.res (.normal, s) = some res := h2
    simp [h3]
  | ret =>
    have h3 : finOf F.res (.ret, s) = some res := h2
    simp [h3]
theorem call_fn {p : Prog} {n f : Nat} {F : F} {args : List AV} {E : List Heap} (h0 : p.nat f = none) (h1 : p.fn f = some F) (hR : p.natR f = none := by rfl) : call p (n + 1) f args E = runF (call p n) p.md F args E := by
  rw [call, h0]; simp only; rw [hR]; simp only; rw [h1]
/-! #### a function that asks once whether a slice is nil, and returns early where it is -/
def NilQ2 (O : Oracle) (md : Nat → Mode) (res : List RV) (r : Res) (d : Nat) (x : X) (RA R3 : List IOp) (_ : Ex) (s : St) : Prop :=
  (evalX s x).slice = true ∧ d < s.tmps.length ∧ (nonNil s (evalX s x) = true ∨ RunO O md RA [] (s.setT (some d) .undef) (Post res r)) ∧ RunO O md R3 [] (s.setT (some d) .undef) (Post res r)
def NilQ1 (O : Oracle) (md : Nat → Mode) (res : List RV) (r : Res) (d : Nat) (x : X) (R1 RA R3 : List IOp) (_ : Ex) (s : St) : Prop := RunO O md R1 [] s (NilQ2 O md res r d x RA R3)
@[simp] theorem NilQ2_apply (O : Oracle) (md : Nat → Mode) (res : List RV) (r : Res) (d : Nat) (x : X) (RA R3 : List IOp) (e : Ex) (s : St) : NilQ2 O md res r d x RA R3 e s =
  ((evalX s x).slice = true ∧ d < s.tmps.length ∧ (nonNil s (evalX s x) = true ∨ RunO O md RA [] (s.setT (some d) .undef) (Post res r)) ∧ RunO O md R3 [] (s.setT (some d) .undef) (Post res r)) := rfl
@[simp] theorem NilQ1_apply (O : Oracle) (md : Nat → Mode) (res : List RV) (r : Res) (d : Nat) (x : X) (R1 RA R3 : List IOp) (e : Ex) (s : St) : NilQ1 O md res r d x R1 RA R3 e s = RunO O md R1 [] s (NilQ2 O md res r d x RA R3) := rfl
theorem nil_run {p : Prog} {n f : Nat} {F : F} {args : List AV} {E : List Heap} {res : Res} {R0 R1 RA R3 : List IOp} {d : Nat} {x : X} (h0 : p.nat f = none) (h1 : p.fn f = some F) (hn : args.length = F.np)
    (hb : F.body = .seq (.reg R0) (.seq (.seq (.reg R1) (.ifnil false d x (.seq (.reg RA) .ret) .skip)) (.seq (.reg R3) .ret)))
    (h : RunO (call p n) p.md R0 [] ⟨args ++ List.replicate (F.ntmps - args.length) .skp, [], E⟩ (NilQ1 (call p n) p.md F.res res d x R1 RA R3)) (hR : p.natR f = none := by rfl) : call p (n + 1) f args E = some res := by
  rw [call_fn h0 h1 hR]
  obtain ⟨s1, e1, s2, e2, k1, k2, k3, ⟨s4, e4, q4⟩⟩ := h
  unfold runF
  rw [if_pos hn, hb]
  have f4 : finOf F.res (.ret, s4) = some res := q4
  by_cases hnn : nonNil s2 (evalX s2 x) = true
  · have hx : execs (call p n) p.md (.seq (.reg R0) (.seq (.seq (.reg R1) (.ifnil false d x (.seq (.reg RA) .ret) .skip)) (.seq (.reg R3) .ret))) ⟨args ++ List.replicate (F.ntmps - args.length) .skp, [], E⟩ = some [(.ret, s4)] := by
      simp [execs, exec, e1, e2, e4, bindAll, k1, k2, hnn]
    rw [hx]
    simp [f4]
  · obtain ⟨s3, e3, q3⟩ := k3.resolve_left hnn
    have f3 : finOf F.res (.ret, s3) = some res := q3
    have hx : execs (call p n) p.md (.seq (.reg R0) (.seq (.seq (.reg R1) (.ifnil false d x (.seq (.reg RA) .ret) .skip)) (.seq (.reg R3) .ret))) ⟨args ++ List.replicate (F.ntmps - args.length) .skp, [], E⟩ = some [(.ret, s3), (.ret, s4)] := by
      simp [execs, exec, e1, e2, e3, e4, bindAll, k1, k2, hnn]
    rw [hx]
    simp [f3, f4]
attribute [simp] AV.slice nonNil
theorem call_run {p : Prog} {n f : Nat} {F : F} {args : List AV} {E : List Heap} {res : Res} (h0 : p.nat f = none) (h1 : p.fn f = some F) (hn : args.length = F.np)
    (h : RunC (call p n) p.md F.body [] ⟨args ++ List.replicate (F.ntmps - args.length) .skp, [], E⟩ (Post F.res res)) (hR : p.natR f = none := by rfl) : call p (n + 1) f args E = some res := by
  rw [call_fn h0 h1 hR]; refine runF_wp hn ?_
  obtain ⟨e, s, h2, h3⟩ := h
  refine ⟨e, s, h2, ?_⟩
  cases e <;> exact h3
attribute [simp] outR List.eraseDups List.eraseDupsBy List.eraseDupsBy.loop List.idxOf List.findIdx List.findIdx.go
attribute [simp] fin finish evalRVs evalRV reach AV.mapR AV.mapRs outBlks
end Go.Ae
namespace Go.Ae
set_option linter.unusedSimpArgs false
set_option linter.unusedVariables false
/-- So many temporaries, some of them known. -/
def tm (n : Nat) (l : List (Nat × AV)) : List AV := l.foldl (fun a p => a.set p.1 p.2) (List.replicate n .undef)
section
variable {α : Type} (enc : α → List AV)
def rws (l : List α) : List (List AV) := l.map enc
@[simp] theorem rws_len (l : List α) : (rws enc l).length = l.length := by simp [rws]
@[simp] theorem rws_nil : rws enc [] = [] := rfl
theorem rws_one (x : α) : rws enc [x] = [enc x] := rfl
theorem rws_cons (x : α) (l : List α) : rws enc (x :: l) = enc x :: rws enc l := rfl
theorem rws_app (l k : List α) : rws enc (l ++ k) = rws enc l ++ rws enc k := by simp [rws]
@[simp] theorem rws_take (l : List α) (n : Nat) : (rws enc l).take n = rws enc (l.take n) := by simp [rws, List.map_take]
@[simp] theorem rws_drop (l : List α) (n : Nat) : (rws enc l).drop n = rws enc (l.drop n) := by simp [rws, List.map_drop]
theorem rws_at {l : List α} {i : Nat} (h : i < l.length) (h' : i < (rws enc l).length) : (rws enc l)[i]'h' = enc l[i] := by simp [rws]
@[simp] theorem rws_get (l : List α) (i : Nat) (h : i < (rws enc l).length) : (rws enc l)[i]'h = enc (l[i]'(by simpa using h)) := by simp [rws]
theorem rws_get? (l : List α) (i : Nat) : (rws enc l)[i]? = (l[i]?).map enc := by simp [rws]
theorem rws_set (l : List α) (i : Nat) (x : α) : (rws enc l).set i (enc x) = rws enc (l.set i x) := by simp [rws, List.map_set]
theorem rws_all {sz : Nat} (h : ∀ x, (enc x).length = sz) (l : List α) : ((rws enc l).all fun r => r.length == sz) = true := by simp [rws, h]
theorem rws_takeLen (l : List α) : (rws enc l).take l.length = rws enc l := by simp
end
theorem idx_succ' {i n : Nat} (h : i < n) (hn : n ≤ 4611686018427387904) : IntKind.wrap .i64 ((i : Int) + 1) = ((i + 1 : Nat) : Int) := by rw [wrap64 ⟨by omega, by omega⟩]; omega
/-- The first i copied, noughts behind. -/
def cpy {α : Type} (z : α) (ws : List α) (i : Nat) : List α := ws.take i ++ List.replicate (ws.length - i) z
section
variable {α : Type} {z : α} {ws : List α} {i : Nat}
theorem cpy_len (h : i ≤ ws.length) : (cpy z ws i).length = ws.length := by simp [cpy]; omega
theorem cpy_set (h : i < ws.length) : (cpy z ws i).set i ws[i] = cpy z ws (i + 1) := by
  unfold cpy
  have hl : (ws.take i).length = i := by simp; omega
  rw [List.set_append_right i _ (by omega), hl, Nat.sub_self]
  obtain ⟨m, hm⟩ : ∃ m, ws.length - i = m + 1 := ⟨ws.length - i - 1, by omega⟩
  rw [hm, show ws.length - (i + 1) = m by omega, List.replicate_succ, List.set_cons_zero, List.take_succ_eq_append_getElem h]
  simp only [List.append_assoc, List.singleton_append]
theorem cpy_zero : cpy z ws 0 = List.replicate ws.length z := by simp [cpy]
theorem cpy_all : cpy z ws ws.length = ws := by simp [cpy]
theorem rws_rep {enc : α → List AV} (n : Nat) : rws enc (List.replicate n z) = List.replicate n (enc z) := by simp [rws]
theorem rws_cpy {enc : α → List AV} : rws enc (cpy z ws 0) = List.replicate ws.length (enc z) := by rw [cpy_zero, rws_rep]
/-- The first i told anew. -/
def mix (f : Nat → α) (ws : List α) (i : Nat) : List α := (List.range i).map f ++ ws.drop i
variable {f : Nat → α}
theorem mix_len (h : i ≤ ws.length) : (mix f ws i).length = ws.length := by simp [mix]; omega
theorem mix_at (h : i < ws.length) (h' : i < (mix f ws i).length) : (mix f ws i)[i] = ws[i] := by simp [mix]
theorem mix_set (h : i < ws.length) : (mix f ws i).set i (f i) = mix f ws (i + 1) := by
  have hm : ((List.range i).map f).length = i := by simp
  unfold mix
  rw [List.set_append_right i _ (by omega), hm, Nat.sub_self, List.drop_eq_getElem_cons h, List.set_cons_zero]
  simp [List.range_succ]
theorem mix_zero : mix f ws 0 = ws := by simp [mix]
theorem mix_all : mix f ws ws.length = (List.range ws.length).map f := by simp [mix]
end
theorem set_set_same (s : Nat) (a b : Option Blk) : ∀ h : Heap, (h.set s a).set s b = h.set s b
  | [] => by simp [Heap.set]
  | (t, c) :: r => by
    simp only [Heap.set]
    by_cases h1 : s = t
    · rw [if_pos h1, if_pos h1]; simp [Heap.set]
    · rw [if_neg h1, if_neg h1]
      by_cases h2 : s < t
      · rw [if_pos h2, if_pos h2]; simp [Heap.set]
      · rw [if_neg h2, if_neg h2]; simp only [Heap.set]; rw [if_neg h1, if_neg h2, set_set_same]
/-- The heap when the block has been told anew i times. -/
def hp (l : Heap) (S : Nat) (b : Nat → Blk) (i : Nat) : Heap := if i = 0 then l else l.set S (some (b i))
theorem hp_zero {l : Heap} {S : Nat} {b : Nat → Blk} : hp l S b 0 = l := by simp [hp]
theorem hp_get {l : Heap} {S : Nat} {b : Nat → Blk} (h : l.get S = some (some (b 0))) (i : Nat) : (hp l S b i).get S = some (some (b i)) := by
  unfold hp
  split
  · rename_i h0; subst h0; exact h
  · rw [get_set, if_pos rfl]
theorem hp_set {l : Heap} {S : Nat} {b : Nat → Blk} (i : Nat) : (hp l S b i).set S (some (b (i + 1))) = hp l S b (i + 1) := by
  unfold hp
  split
  · simp
  · rw [set_set_same]; simp
theorem hp_all {l : Heap} {S : Nat} {b : Nat → Blk} {n : Nat} (h : l.set S (some (b 0)) = l) : hp l S b n = l.set S (some (b n)) := by
  unfold hp
  split
  · rename_i h0; subst h0; exact h.symm
  · rfl
theorem hp_ne {l : Heap} {S T : Nat} {b : Nat → Blk} (h : T ≠ S) (i : Nat) : (hp l S b i).get T = l.get T := by
  unfold hp
  split
  · rfl
  · rw [get_set, if_neg h]
/-! #### the callers' memory -/
@[simp] theorem heap_zero (ts : List AV) (l : Heap) (e : List Heap) : St.heap ⟨ts, l, e⟩ 0 = l := rfl
/-- The callers' heap of a level. -/
def hat (e : List Heap) (n : Nat) : Heap := e.getD n []
theorem blk_succ (ts : List AV) (l : Heap) (e : List Heap) (n s : Nat) : St.blk ⟨ts, l, e⟩ (n + 1) s = (match (hat e n).get s with | some (some b) => some b | _ => none) := rfl
theorem heap_succ (ts : List AV) (l : Heap) (e : List Heap) (n : Nat) : St.heap ⟨ts, l, e⟩ (n + 1) = hat e n := rfl
theorem put_succ (ts : List AV) (l : Heap) (e : List Heap) (n s : Nat) (b : Option Blk) : St.put ⟨ts, l, e⟩ (n + 1) s b = ⟨ts, l, e.modify n fun h => h.set s b⟩ := rfl
theorem hat_modify {e : List Heap} {n : Nat} (h : n < e.length) (f : Heap → Heap) : hat (e.modify n f) n = f (hat e n) := by
  unfold hat
  rw [List.getD_eq_getElem?_getD, List.getElem?_modify_eq, List.getD_eq_getElem?_getD, List.getElem?_eq_getElem h]; rfl
@[simp] theorem hat_zero (h : Heap) (e : List Heap) : hat (h :: e) 0 = h := rfl
@[simp] theorem hat_cons (h : Heap) (e : List Heap) (n : Nat) : hat (h :: e) (n + 1) = hat e n := rfl
theorem modify_modify' {e : List Heap} {n : Nat} (f g : Heap → Heap) : (e.modify n f).modify n g = e.modify n fun h => g (f h) := by
  rw [List.modify_modify_eq]; rfl
theorem modify_id' {e : List Heap} {n : Nat} : (e.modify n fun h => h) = e := by exact List.modify_id n e
@[simp] theorem bears_nobox (v sz : Nat) (fl : Bool) (el : List (List AV)) : Blk.bears ⟨v, sz, false, fl, el⟩ = false := rfl
/-! #### what is left behind sizes -/
def szV (l : Int) (w : Nat) : Int := if (w : Int) ≤ l then l - w else -1
theorem szV_zero {l : Int} (h : 0 ≤ l) : szV l 0 = l := by unfold szV; rw [if_pos (by omega)]; omega
theorem szV_pos {l : Int} {w : Nat} (h : decide (szV l w < 0) = false) (hl : 0 ≤ l) : (w : Int) ≤ l ∧ szV l w = l - w := by
  unfold szV at h ⊢
  by_cases hc : (w : Int) ≤ l
  · rw [if_pos hc]; exact ⟨hc, rfl⟩
  · rw [if_neg hc] at h; simp at h
theorem szV_neg {l : Int} {w : Nat} (h : decide (szV l w < 0) = true) (hl : 0 ≤ l) : l < w ∧ szV l w = -1 := by
  unfold szV at h ⊢
  by_cases hc : (w : Int) ≤ l
  · rw [if_pos hc] at h; simp at h; omega
  · rw [if_neg hc]; exact ⟨by omega, rfl⟩
theorem szV_le {l : Int} {w : Nat} (h : (w : Int) ≤ l) : szV l w = l - w := by unfold szV; rw [if_pos h]
theorem szV_gt {l : Int} {w : Nat} (h : l < w) : szV l w = -1 := by unfold szV; rw [if_neg (by omega)]
/-! #### marks -/
def dig (n : Nat) : ByteArray := ⟨#[UInt8.ofNat (48 + n % 10)]⟩
def mdig (n : Nat) (t : ByteArray) : ByteArray := if h : n = 0 then t else mdig (n / 10) (dig n ++ t)
termination_by n
decreasing_by omega
def mtext (c : Int) : ByteArray := ⟨#[109]⟩ ++ mdig c.toNat ByteArray.empty
def encI (n : Int) : List AV := [.int .i64 n]
def encT (s : ByteArray) : List AV := [.str s]
def mkI (c : Int) (i : Nat) : Int := c + i
def mkT (c : Int) (i : Nat) : ByteArray := mtext (c + i)
def marks {α : Type} (mk : Int → Nat → α) (c : Int) (n : Nat) : List α := (List.range n).map (mk c)
@[simp] theorem marks_len {α : Type} (mk : Int → Nat → α) (c : Int) (n : Nat) : (marks mk c n).length = n := by simp [marks]
theorem marks_at {α : Type} {mk : Int → Nat → α} {c : Int} {n i : Nat} (h : i < (marks mk c n).length) : (marks mk c n)[i] = mk c i := by simp [marks]
/-- A row of elements in a block. -/
def mblk {α : Type} (enc : α → List AV) (sz : Nat) (mk : Int → Nat → α) (c : Int) (ws : List α) (i : Nat) : Blk := ⟨0, sz, false, true, rws enc (mix (mk c) ws i)⟩
theorem mblk_zero {α : Type} (enc : α → List AV) (sz : Nat) (mk : Int → Nat → α) (c : Int) (ws : List α) : mblk enc sz mk c ws 0 = ⟨0, sz, false, true, rws enc ws⟩ := by rw [mblk, mix_zero]
theorem hpm_all {α : Type} {enc : α → List AV} {sz : Nat} {mk : Int → Nat → α} {l : Heap} {S : Nat} {c : Int} {ws : List α} (h : l.set S (some ⟨0, sz, false, true, rws enc ws⟩) = l) :
    hp l S (mblk enc sz mk c ws) ws.length = l.set S (some ⟨0, sz, false, true, rws enc (marks mk c ws.length)⟩) := by
  rw [hp_all (by rw [mblk_zero]; exact h), mblk, mix_all]; rfl
def wsum {α : Type} (w : α → Nat) (l : List α) : Nat := (l.map w).sum
theorem wsum_drop {α : Type} {w : α → Nat} {l : List α} {i : Nat} (h : i < l.length) : wsum w (l.drop i) = w l[i] + wsum w (l.drop (i + 1)) := by
  unfold wsum; rw [List.drop_eq_getElem_cons h, List.map_cons, List.sum_cons]
theorem wsum_all {α : Type} {w : α → Nat} {l : List α} : wsum w (l.drop l.length) = 0 := by simp [wsum]
theorem szV_step {l : Int} {a b : Nat} (h : (a : Int) ≤ l) : szV (l - a) b = szV l (a + b) := by
  unfold szV; split <;> split <;> omega
theorem szV_stop {l : Int} {a b : Nat} (h : l < a) : szV l (a + b) = -1 := by
  unfold szV; rw [if_neg (by omega)]
def inB (a b c : Int) : Bool := decide (b ≤ a) && decide (a ≤ c)
end Go.Ae
namespace Go.Ae
set_option linter.unusedSimpArgs false
set_option linter.unusedVariables false
theorem evalW_callv (O : Oracle) (md : Nat → Mode) (st : St) (base : Nat) (x : X) (args : List X) (fl : Bool) : evalW O md st base (.callv x args fl) = match evalX st x with
    | .fn f caps => match md f with
      | .val => match callVal O st base f (evalXs st args ++ caps) fl with
        | some (v, n) => match addNews st n with
          | some st' => some (v, st')
          | none => none
        | none => none
      | .view => match callView O st f (evalXs st args ++ caps) with
        | some v => some (v, st)
        | none => none
      | .ref => callRef O st base f (evalXs st args ++ caps) fl
    | _ => none := rfl
def indexFuncF (sz : Nat) (ag : Bool) : F := ⟨2, 19, [.t 4],
 .seq (.reg [⟨(some 4), .mv (.k (.int .i64 0)), none, 0, 0, []⟩])
 (.seq (.seq (.reg [⟨(some 6), .mv (.t 0), none, 65536, 0, []⟩,
   ⟨(some 7), .len false (.t 6), none, 65792, 1, []⟩,
   ⟨(some 8), .mv (.k (.int .i64 0)), none, 66048, 2, []⟩])
 (.block 0 (.loop [0, 1, 7, 8] []
  (.seq (.reg [⟨(some 9), .bin .lss (.t 8) (.t 7), none, 131072, 0, []⟩])
  (.seq (.cond (.t 9)
   (.skip)
   (.exit 0))
  (.seq (.block 1 (.seq (.reg [⟨(some 10), .mv (.t 8), none, 196608, 0, []⟩,
    ⟨(some 5), .mv (.t 10), none, 196864, 1, []⟩])
  (.seq (.reg [⟨(some 11), .mv (.t 1), none, 262144, 0, []⟩,
    ⟨(some 12), .mv (.t 0), none, 262400, 1, []⟩,
    ⟨(some 13), .mv (.t 5), none, 262656, 2, []⟩,
    ⟨(some 14), .iaddr sz (.t 12) (.t 13), none, 262912, 3, []⟩,
    ⟨(some 15), .load sz ag (.t 14), none, 263168, 4, []⟩,
    ⟨(some 16), .callv (.t 11) [(.t 15)] true, none, 263424, 5, []⟩])
  (.cond (.t 16)
   (.seq (.reg [⟨(some 17), .mv (.t 5), none, 327680, 0, []⟩,
     ⟨(some 4), .mv (.t 17), none, 327936, 1, []⟩])
   (.ret))
   (.skip)))))
  (.reg [⟨(some 18), .bin .add (.t 8) (.k (.int .i64 1)), none, 393216, 0, []⟩,
    ⟨(some 8), .mv (.t 18), none, 393472, 1, []⟩])))))))
 (.seq (.reg [⟨(some 4), .mv (.k (.int .i64 (-1))), none, 458752, 0, []⟩])
 (.ret)))⟩
def containsFuncF (g : Nat) : F := ⟨2, 9, [.t 4],
 .seq (.reg [⟨(some 4), .mv (.k (.bool false)), none, 0, 0, []⟩])
 (.seq (.reg [⟨(some 5), .mv (.t 0), none, 65536, 0, []⟩,
   ⟨(some 6), .mv (.t 1), none, 65792, 1, []⟩,
   ⟨(some 7), .call g [(.t 5), (.t 6)] true, none, 66048, 2, []⟩,
   ⟨(some 8), .bin .geq (.t 7) (.k (.int .i64 0)), none, 66304, 3, []⟩,
   ⟨(some 4), .mv (.t 8), none, 66560, 4, []⟩])
 (.ret))⟩
/-- The first place at which p holds, or -1. -/
def idxP {α : Type} (p : α → Bool) (l : List α) : Int := match l.findIdx? p with
  | some i => i
  | none => -1
theorem idxP_some {α : Type} {p : α → Bool} {l : List α} {i : Nat} (h : i < l.length) (hp : p l[i] = true) (hn : ∀ j (hj : j < i), p (l[j]'(by omega)) = false) : idxP p l = i := by
  unfold idxP
  rw [List.findIdx?_eq_some_iff_getElem.2 ⟨h, hp, fun j hj => by simp [hn j hj]⟩]
theorem idxP_none {α : Type} {p : α → Bool} {l : List α} (h : ∀ j (hj : j < l.length), p l[j] = false) : idxP p l = -1 := by
  unfold idxP
  rw [List.findIdx?_eq_none_iff.2 fun x hx => by obtain ⟨j, hj, rfl⟩ := List.getElem_of_mem hx; exact h j hj]
theorem idxP_ge {α : Type} (p : α → Bool) (l : List α) : decide (0 ≤ idxP p l) = l.any p := by
  unfold idxP
  cases h : l.findIdx? p with
  | none =>
    rw [List.findIdx?_eq_none_iff] at h
    have : l.any p = false := by rw [List.any_eq_false]; exact fun x hx => by simp [h x hx]
    rw [this]; rfl
  | some i =>
    rw [List.findIdx?_eq_some_iff_getElem] at h
    obtain ⟨h1, h2, _⟩ := h
    have : l.any p = true := List.any_eq_true.2 ⟨l[i], List.getElem_mem h1, h2⟩
    rw [this]; simp
section
variable {c : Prog} {f g : Nat} {α : Type} {enc : α → List AV} {sz : Nat} {ag : Bool}
theorem indexFunc_ok (h0 : c.nat f = none) (hf : c.fn f = some (indexFuncF sz ag)) {p : α → Bool} {arg : α → AV} {caps : List AV} (d : Nat) (fl : Bool) (l : List α) (hn : l.length ≤ 1000000000)
    (hm : c.md g = .val) (hsz : ∀ x, (enc x).length = sz) (harg : ∀ x, if ag then arg x = .agg (enc x) else enc x = [arg x]) (hre : ∀ (st : St) x, mapO (reify st 8) (arg x :: caps) = some (arg x :: caps)) (hst : ∀ h, AV.mapRs h caps = caps)
    (hcb : ∀ k x, x ∈ l → call c (k + d) g (arg x :: caps) [] = some ⟨.bool (p x), [], []⟩) (k : Nat) (hR : c.natR f = none := by rfl) :
    call c (k + d + 1) f [.rd fl (rws enc l), .fn g caps] [] = some ⟨.int .i64 (idxP p l), [], []⟩ := by
  refine call_run h0 hf rfl ?_ hR
  have hx : ∀ (st : St) (x : α), x ∈ l → callVal (call c (k + d)) st 263424 g (arg x :: caps) true = some (.bool (p x), []) := fun st x hxm => by
    unfold callVal
    rw [hre st x]
    simp only []
    rw [hcb k x hxm]
    simp [AV.bears, AV.mapR, numbered]
  simp [indexFuncF]
  refine RunC_loop (fun i : Nat => ⟨tm 19 [(0, .rd fl (rws enc l)), (1, .fn g caps), (7, .int .i64 l.length), (8, .int .i64 i)], [], []⟩)
    (fun i => i ≤ l.length ∧ ∀ j (hj : j < l.length), j < i → p l[j] = false) (fun i => l.length - i) 0 ⟨Nat.zero_le _, fun j _ h => by omega⟩ (by simp; omega) (by
      simp [tm, hst]) fun i hi _ => ?_
  obtain ⟨hi, hno⟩ := hi
  by_cases hlt : i < l.length
  · have hs := idx_succ' hlt (by omega)
    have hxx := fun st => hx st l[i] (List.getElem_mem hlt)
    have htk : (enc l[i]).take sz = enc l[i] := List.take_of_length_le (by rw [hsz]; exact Nat.le_refl _)
    have ha := harg l[i]
    have hz := hsz l[i]
    cases hp : p l[i]
    · rw [hp] at hxx
      have hnext : ∀ j (hj : j < l.length), j < i + 1 → p l[j] = false := fun j hj hji => by
        rcases Nat.lt_succ_iff_lt_or_eq.1 hji with h | rfl
        · exact hno j hj h
        · exact hp
      cases ag
      · simp only [Bool.false_eq_true, if_false] at ha
        rw [ha] at htk hz
        have hz1 : 1 = sz := hz
        subst hz1
        simp [-callVal, tm, hlt, hs, ha, evalW_callv, hm, hxx]
        exact ⟨i + 1, ⟨by omega, hnext⟩, by omega, by simp [hst]⟩
      · simp only [if_true] at ha
        rw [ha] at hxx
        simp [-callVal, tm, hlt, hs, hz, htk, evalW_callv, hm, hxx]
        exact ⟨i + 1, ⟨by omega, hnext⟩, by omega, by simp [hst]⟩
    · rw [hp] at hxx
      have hr := idxP_some hlt hp fun j hj => hno j (by omega) hj
      cases ag
      · simp only [Bool.false_eq_true, if_false] at ha
        rw [ha] at htk hz
        have hz1 : 1 = sz := hz
        subst hz1
        simp [-callVal, tm, hlt, hs, ha, evalW_callv, hm, hxx, hr]
      · simp only [if_true] at ha
        rw [ha] at hxx
        simp [-callVal, tm, hlt, hs, hz, htk, evalW_callv, hm, hxx, hr]
  · have : i = l.length := by omega
    subst this
    have hr := idxP_none (p := p) (l := l) fun j hj => hno j hj hj
    simp [tm, hr]
theorem containsFunc_ok {i : Nat} (h0 : c.nat f = none) (hf : c.fn f = some (containsFuncF i)) (hmi : c.md i = .val) {p : α → Bool} {caps : List AV} (d : Nat) (fl : Bool) (l : List α) (hre : ∀ (st : St), mapO (reify st 8) [.rd fl (rws enc l), .fn g caps] = some [.rd fl (rws enc l), .fn g caps])
    (hi : ∀ k, call c (k + d) i [.rd fl (rws enc l), .fn g caps] [] = some ⟨.int .i64 (idxP p l), [], []⟩) (k : Nat) (hR : c.natR f = none := by rfl) :
    call c (k + d + 1) f [.rd fl (rws enc l), .fn g caps] [] = some ⟨.bool (l.any p), [], []⟩ := by
  refine call_run h0 hf rfl ?_ hR
  have hx : ∀ (st : St), callVal (call c (k + d)) st 66048 i [.rd fl (rws enc l), .fn g caps] true = some (.int .i64 (idxP p l), []) := fun st => by
    unfold callVal
    rw [hre st]
    simp only []
    rw [hi k]
    simp [AV.bears, AV.mapR, numbered]
  have hge := idxP_ge p l
  simp [-callVal, containsFuncF, R_call _ _ _ hmi, hx, hge]
def cloneF (sz bytes : Nat) (zero : List AV) : F := ⟨1, 8, [.t 2],
 .seq (.reg [⟨(some 2), .nil0 true sz, none, 0, 0, []⟩])
 (.seq (.seq (.reg [⟨(some 3), .mv (.t 0), none, 65536, 0, []⟩])
 (.ifnil false 4 (.t 3)
  (.seq (.reg [⟨(some 2), .nil0 true sz, none, 131072, 0, []⟩])
  (.ret))
  (.skip)))
 (.seq (.reg [⟨(some 5), .bslice true sz zero 0 [], none, 196608, 0, []⟩,
   ⟨(some 6), .mv (.t 0), none, 196864, 1, []⟩,
   ⟨(some 7), .app true sz bytes (.t 5) (.t 6), none, 197120, 2, []⟩,
   ⟨(some 2), .mv (.t 7), none, 197376, 3, []⟩])
 (.ret)))⟩
theorem clone_ok {bytes : Nat} {zero : List AV} (h0 : c.nat f = none) (hf : c.fn f = some (cloneF sz bytes zero)) (hsz : ∀ x, (enc x).length = sz) (h1 : 1 ≤ sz) (hz : zero.length = sz) (hza : zero.all AV.scal = true) (l : List α) (hb : l.length * bytes ≤ 140737488355328) (hl : l.length ≤ 140737488355328) (k : Nat) (hR : c.natR f = none := by rfl) :
    call c (k + 1) f [.rd true (rws enc l)] [] = some ⟨.sl 0 0 0 [] 0 l.length, [⟨0, sz, false, true, rws enc l⟩], []⟩ := by
  refine nil_run h0 hf rfl rfl ?_ hR
  have hall := rws_all enc hsz l
  have hza3 : ∀ x ∈ zero, x.scal = true := fun x hx => List.all_eq_true.1 hza x hx
  simp only [AV.scal] at hza3
  cases l with
  | nil =>
    simp [cloneF, evalW, source, hz]
    exact ⟨hza3, fun x hx => .inl (hza3 x hx)⟩
  | cons s l =>
    have hcell : ∃ a r, enc s = a :: r := by
      cases he : enc s with
      | nil => have := hsz s; rw [he] at this; simp at this; omega
      | cons a r => exact ⟨a, r, rfl⟩
    obtain ⟨a, r, he⟩ := hcell
    have hnn : rws enc (s :: l) = (a :: r) :: rws enc l := by rw [rws_cons, he]
    simp at hb hl
    simp [cloneF, evalW, source, hz]
    rw [hnn]
    refine ⟨rfl, ⟨hza3, fun x hx => .inl (hza3 x hx)⟩, ?_⟩
    rw [← hnn]
    have h3 : ∀ x ∈ rws enc (s :: l), x.length = sz := fun x hx => by
      have := List.all_eq_true.1 hall x hx
      simpa using this
    exact ⟨h3, hb, hl⟩
end
end Go.Ae
