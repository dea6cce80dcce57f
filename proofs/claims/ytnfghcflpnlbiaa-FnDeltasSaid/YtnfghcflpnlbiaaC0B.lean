/- The code of the functions, for the evaluator. -/
import Derived.Test.YtnfghcflpnlbiaaAeL6
import Derived.Test.YtnfghcflpnlbiaaC0N
import Derived.Test.YtnfghcflpnlbiaaProg
import Derived.KernelRfl
import Derived.Shelf.Strings.OnBuilder
import Derived.Shelf.Strings.Builder1
import Derived.Shelf.Bits.Mul64
import Derived.Laws.CopyOwn
import Derived.Lib.Builder
import Derived.Deep.RegionLaw
import Derived.WalkKit
import Derived.WalkSpells
import Derived.StillTactics
import Derived.RowKit3
import Derived.Lib.Hide
namespace Go.Ae.C0

def md : Nat → Mode := fun _ => .val
/-- (loop.example/g00849/impl.Wide).cell -/
def F101 : F := ⟨2, 25, [.t 4, .t 5],
 .seq (.reg [⟨(some 2), .box (.t 0), none, 0, 0, []⟩,
   ⟨(some 4), .mv (.k (.int .i64 0)), none, 256, 1, []⟩,
   ⟨(some 5), .mv (.k (.int .i64 0)), none, 512, 2, []⟩])
 (.seq (.reg [⟨(some 6), .mv (.t 1), none, 65536, 0, []⟩,
   ⟨(some 7), .load 5 true (.t 2), none, 65792, 1, []⟩,
   ⟨(some 8), .call 115 [(.t 7)] true, none, 66048, 2, []⟩,
   ⟨(some 9), .bin .rem (.t 6) (.t 8), none, 66304, 3, []⟩,
   ⟨(some 10), .faddr 2 (.t 2), none, 66560, 4, []⟩,
   ⟨(some 11), .load 1 false (.t 10), none, 66816, 5, []⟩,
   ⟨(some 12), .bin .quo (.t 9) (.t 11), none, 67072, 6, []⟩,
   ⟨(some 13), .mv (.t 1), none, 67328, 7, []⟩,
   ⟨(some 14), .load 5 true (.t 2), none, 67584, 8, []⟩,
   ⟨(some 15), .call 115 [(.t 14)] true, none, 67840, 9, []⟩,
   ⟨(some 16), .bin .quo (.t 13) (.t 15), none, 68096, 10, []⟩,
   ⟨(some 17), .faddr 2 (.t 2), none, 68352, 11, []⟩,
   ⟨(some 18), .load 1 false (.t 17), none, 68608, 12, []⟩,
   ⟨(some 19), .bin .mul (.t 16) (.t 18), none, 68864, 13, []⟩,
   ⟨(some 20), .mv (.t 1), none, 69120, 14, []⟩,
   ⟨(some 21), .faddr 2 (.t 2), none, 69376, 15, []⟩,
   ⟨(some 22), .load 1 false (.t 21), none, 69632, 16, []⟩,
   ⟨(some 23), .bin .rem (.t 20) (.t 22), none, 69888, 17, []⟩,
   ⟨(some 24), .bin .add (.t 19) (.t 23), none, 70144, 18, []⟩,
   ⟨(some 4), .mv (.t 12), none, 70400, 19, []⟩,
   ⟨(some 5), .mv (.t 24), none, 70656, 20, []⟩])
 (.ret))⟩
/-- (loop.example/g00849/impl.Wide).stripe -/
def F115 : F := ⟨1, 9, [.t 2],
 .seq (.reg [⟨(some 1), .box (.t 0), none, 0, 0, []⟩,
   ⟨(some 2), .mv (.k (.int .i64 0)), none, 256, 1, []⟩])
 (.seq (.reg [⟨(some 3), .faddr 0 (.t 1), none, 65536, 0, []⟩,
   ⟨(some 4), .faddr 0 (.t 3), none, 65792, 1, []⟩,
   ⟨(some 5), .load 1 false (.t 4), none, 66048, 2, []⟩,
   ⟨(some 6), .faddr 2 (.t 1), none, 66304, 3, []⟩,
   ⟨(some 7), .load 1 false (.t 6), none, 66560, 4, []⟩,
   ⟨(some 8), .bin .mul (.t 5) (.t 7), none, 66816, 5, []⟩,
   ⟨(some 2), .mv (.t 8), none, 67072, 6, []⟩])
 (.ret))⟩
def fns : Nat → Option F
  | 101 => some F101
  | 115 => some F115
  | _ => none
def code : Prog := ⟨fns, md, fun _ => none⟩
theorem fn101 : code.fn 101 = some F101 := rfl
theorem fn115 : code.fn 115 = some F115 := rfl
theorem rcall {O : Oracle} {st : St} {Q : Ex → St → Prop} {fs : List Fr} {d : Option Nat} {b i : Nat} {ap : List X} {r : List IOp} (f : Nat) (xs : List X) (fl : Bool) : RunO O code.md (⟨d, .call f xs fl, none, b, i, ap⟩ :: r) fs st Q = (quietOk st (.call f xs fl) ap = true ∧ RunQ O code.md (callVal O st b f (evalXs st xs) fl) d r fs st Q) := R_call f xs fl rfl
end Go.Ae.C0
namespace Go.Ae.C0
set_option linter.unusedSimpArgs false
set_option linter.unusedVariables false
theorem wdiv {x y : Nat} (h : x ≤ 1000000) : IntKind.wrap .i64 ((x : Int).tdiv (y : Int)) = ((x / y : Nat) : Int) ∧ IntKind.wrap .i64 ((x : Int) / (y : Int)) = ((x / y : Nat) : Int) := by
  have h1 : (x : Int).tdiv (y : Int) = ((x / y : Nat) : Int) := rfl
  have h2 : (x : Int) / (y : Int) = ((x / y : Nat) : Int) := rfl
  have hq : x / y ≤ x := Nat.div_le_self _ _
  rw [h1, h2]
  generalize x / y = q at *
  exact ⟨wrap64 ⟨by omega, by omega⟩, wrap64 ⟨by omega, by omega⟩⟩
theorem wmod (x y : Nat) : (x : Int).tmod (y : Int) = ((x % y : Nat) : Int) ∧ (x : Int) % (y : Int) = ((x % y : Nat) : Int) := ⟨rfl, rfl⟩
theorem mul_le (a u : Nat) (ha : a ≤ 4) (hu : u ≤ 8) : a * u ≤ 32 := Nat.le_trans (Nat.mul_le_mul ha hu) (by decide)
theorem mul_pos' {a u : Nat} (ha : 1 ≤ a) (hu : 1 ≤ u) : 1 ≤ a * u := Nat.mul_pos ha hu
theorem stripe (k : Nat) (a b u : Nat) (n : Int) (ha : 1 ≤ a ∧ a ≤ 4) (hu : 1 ≤ u ∧ u ≤ 8) : call code (k + 1) 115 [.agg [.int .i64 a, .int .i64 b, .int .i64 u, .int .i64 n, .undef]] [] = some ⟨.int .i64 (a * u : Nat), [], []⟩ := by
  refine call_run rfl fn115 rfl ?_
  have h := mul_le a u ha.2 hu.2
  have e : IntKind.wrap .i64 ((a : Int) * (u : Int)) = ((a * u : Nat) : Int) := by rw [← Int.natCast_mul, wrap64 ⟨by omega, by omega⟩]
  generalize a * u = S at *
  simp [F115, e]
theorem cell (k : Nat) (a b u n p : Nat) (ha : 1 ≤ a ∧ a ≤ 4) (hu : 1 ≤ u ∧ u ≤ 8) (hp : p ≤ 1000) : call code (k + 2) 101 [.agg [.int .i64 a, .int .i64 b, .int .i64 u, .int .i64 n, .undef], .int .i64 p] [] = some ⟨.tup [.int .i64 (colN a u p : Nat), .int .i64 (offN a u p : Nat)], [], []⟩ := by
  refine call_run rfl fn101 rfl ?_
  have h := mul_le a u ha.2 hu.2
  have hps := mul_pos' ha.1 hu.1
  have s := fun k => stripe k a b u n ha hu
  have hS8 : u ≤ a * u := Nat.le_mul_of_pos_left u ha.1
  unfold colN offN
  generalize a * u = S at *
  have hS0 : ¬ S = 0 := by omega
  have hu0 : ¬ u = 0 := by omega
  obtain ⟨e1, e1'⟩ := wmod p S
  have hm : p % S ≤ p := Nat.mod_le _ _
  have hq : p / S ≤ p := Nat.div_le_self _ _
  have hqq : p / S * u ≤ p := by
    have := Nat.div_mul_le_self p S
    have := Nat.mul_le_mul_left (p / S) hS8
    omega
  have hm2 : p % u ≤ p := Nat.mod_le _ _
  obtain ⟨e5, e5'⟩ := wmod p u
  obtain ⟨e3, e3'⟩ := wdiv (x := p) (y := S) (by omega)
  generalize p % S = r at *
  have hr : r / u ≤ r := Nat.div_le_self _ _
  obtain ⟨e2, e2'⟩ := wdiv (x := r) (y := u) (by omega)
  generalize r / u = c at *
  generalize p / S = q at *
  generalize p % u = m at *
  have e4 : IntKind.wrap .i64 ((q : Int) * (u : Int)) = ((q * u : Nat) : Int) := by rw [← Int.natCast_mul, wrap64 ⟨by omega, by omega⟩]
  generalize q * u = d at *
  have e6 : IntKind.wrap .i64 ((d : Int) + (m : Int)) = ((d + m : Nat) : Int) := by rw [wrap64 ⟨by omega, by omega⟩]; omega
  generalize d + m = o at *
  simp [F101, rcall, s, e1, e1', e2, e2', e3, e3', e4, e5, e5', e6, hS0, hu0]
end Go.Ae.C0
namespace Go.Ae.C0
open Go.Proofs
set_option linter.unusedSimpArgs false

theorem ok101 : ∃ fn, Try.prog.funcs[101]? = some fn ∧ FOk Try.prog md fn F101 ∧ (fn.name == "runtime.NumGoroutine") = false :=
  ⟨Try.f101, Try.func101, ⟨⟨_, rfl, .seq (.plain (by kernel_rfl)) (.seq (.draw (b := [0, 0, 2, 7, 0, 16, 63, 0, 0, 262, 902, 0, 2048, 8070, 0, 0, 32768, 114688, 262022, 895, 1048575]) (by unfold cIxs; kernel_rfl) (by kernel_rfl) (by kernel_rfl) (by kernel_rfl)) (.ret))⟩, by kernel_rfl, rfl, by decide⟩, by kernel_rfl⟩
theorem ok115 : ∃ fn, Try.prog.funcs[115]? = some fn ∧ FOk Try.prog md fn F115 ∧ (fn.name == "runtime.NumGoroutine") = false :=
  ⟨Try.f115, Try.func115, ⟨⟨_, rfl, .seq (.plain (by kernel_rfl)) (.seq (.plain (by kernel_rfl)) (.ret))⟩, by kernel_rfl, rfl, by decide⟩, by kernel_rfl⟩
set_option maxRecDepth 100000 in
theorem progOk : ProgOk Try.prog code where
  fn := fun f F _ h => by
    simp only [code, fns] at h
    split at h
    · cases h; exact ok101
    · cases h; exact ok115
    · cases h
  nat := fun f h args E v bs hn _ => by simp [code] at hn
end Go.Ae.C0
set_option linter.unusedSimpArgs false
set_option linter.unusedVariables false
namespace Go.Proofs
open Go.Shelf Go.RowKit Go.Lib
def Try.laysC_ren : Go.Shelf.Ren := ⟨fun | 156 => 74 | 165 => 125 | 166 => 126 | 169 => 127 | 240 => 151 | 241 => 152 | 276 => 171 | 277 => 172 | n => n, fun | 31 => 45 | 9 => 9 | 3 => 3 | 4 => 4 | 0 => 0 | 20 => 20 | 72 => 140 | 76 => 144 | 70 => 138 | 37 => 42 | 75 => 143 | 127 => 168 | 164 => 181 | 5 => 5 | 80 => 146 | n => n, fun | n => n⟩
def Try.laysB_ren : Go.Shelf.Ren := ⟨fun | 167 => 137 | 169 => 127 | 240 => 151 | 276 => 171 | n => n, Try.laysC_ren.t, fun | n => n⟩
theorem Try.laysB167 : Go.Proofs.Lays.n167 Try.prog Try.laysB_ren := {
  mixed := by kernel_rfl
  f167 := Try.func137.trans (congrArg some (by kernel_rfl))
  f240 := Try.func151.trans (congrArg some (by kernel_rfl))
  f276 := Try.func171.trans (congrArg some (by kernel_rfl))
  t0 := Try.underlying0
  a0 := Try.isAgg0
  z0 := Try.sizeOf0
  v0 := Try.zeroValue0
  t4 := Try.underlying4
  a4 := Try.isAgg4
  z4 := Try.sizeOf4
  v4 := Try.zeroValue4
  t5 := Try.underlying5
  a5 := Try.isAgg5
  z5 := Try.sizeOf5
  v5 := Try.zeroValue5
  t9 := Try.underlying9
  a9 := Try.isAgg9
  z9 := Try.sizeOf9
  v9 := Try.zeroValue9
  t20 := Try.underlying20
  a20 := Try.isAgg20
  z20 := Try.sizeOf20
  v20 := Try.zeroValue20
  t37 := Try.underlying42
  a37 := Try.isAgg42
  z37 := Try.sizeOf42
  v37 := Try.zeroValue42
  t70 := Try.underlying138
  a70 := Try.isAgg138
  z70 := Try.sizeOf138
  v70 := Try.zeroValue138
  t72 := Try.underlying140
  a72 := Try.isAgg140
  z72 := Try.sizeOf140
  v72 := Try.zeroValue140
  t75 := Try.underlying143
  a75 := Try.isAgg143
  z75 := Try.sizeOf143
  v75 := Try.zeroValue143
  t164 := Try.underlying181
  a164 := Try.isAgg181
  z164 := Try.sizeOf181
  v164 := Try.zeroValue181
}
theorem Try.Builder_Extra_B : Builder.Extra Try.prog Try.laysB_ren := {
  sizeBuilder := by kernel_rfl
  liesBuilder := by kernel_rfl
  t5 := Try.underlying5
  a5 := Try.isAgg5
  z5 := Try.sizeOf5
  v5 := Try.zeroValue5
  infoByte := by kernel_rfl
  cellsByte := by kernel_rfl
  sizeByte := by kernel_rfl
  neB5 := by decide }
theorem Try.builder_WriteByte (B b : Nat) (bs : List Value) (c : Int) (w : World) (h : Lib.IsBuilder 140 5 B b bs w) (hlen : bs.length + 1 ≤ 140737488355328) (hBw : B ≤ w.heap.size) :
    Calls Try.prog 137 #[.pointer (some ⟨b, 0, none⟩), .int .u8 c] w fun e w' => e = .returned .nilIface ∧ (Lib.BuilderAt 140 5 B b (.pointer (some ⟨b, 0, none⟩)) (bs ++ [.int .u8 c]) w' ∧ Below B w w') := Any.Builder_WriteByte Try.laysB167 Try.Builder_Extra_B B b bs c w h hlen hBw
def Try.laysC169_ren : Go.Shelf.Ren := ⟨fun | 169 => 127 | n => n, fun | 70 => 138 | 9 => 9 | 0 => 0 | 72 => 140 | 37 => 42 | 127 => 168 | 3 => 3 | 5 => 5 | n => n, fun | n => n⟩
theorem Try.laysC169 : Go.Proofs.Lays.n169 Try.prog Try.laysC169_ren := {
  mixed := by kernel_rfl
  f169 := Try.func127.trans (congrArg some (by kernel_rfl))
  t0 := Try.underlying0
  a0 := Try.isAgg0
  z0 := Try.sizeOf0
  v0 := Try.zeroValue0
  t3 := Try.underlying3
  a3 := Try.isAgg3
  z3 := Try.sizeOf3
  v3 := Try.zeroValue3
  t9 := Try.underlying9
  a9 := Try.isAgg9
  z9 := Try.sizeOf9
  v9 := Try.zeroValue9
  t37 := Try.underlying42
  a37 := Try.isAgg42
  z37 := Try.sizeOf42
  v37 := Try.zeroValue42
  t70 := Try.underlying138
  a70 := Try.isAgg138
  z70 := Try.sizeOf138
  v70 := Try.zeroValue138
  t72 := Try.underlying140
  a72 := Try.isAgg140
  z72 := Try.sizeOf140
  v72 := Try.zeroValue140
  t127 := Try.underlying168
  a127 := Try.isAgg168
  z127 := Try.sizeOf168
  v127 := Try.zeroValue168 }
theorem Try.Builder_Extra_C : Builder.Extra Try.prog Try.laysC169_ren := {
  sizeBuilder := by kernel_rfl
  liesBuilder := by kernel_rfl
  t5 := Try.underlying5
  a5 := Try.isAgg5
  z5 := Try.sizeOf5
  v5 := Try.zeroValue5
  infoByte := by kernel_rfl
  cellsByte := by kernel_rfl
  sizeByte := by kernel_rfl
  neB5 := by decide }
theorem Try.builder_String (B b : Nat) (l : List UInt8) (w : World) (h : Lib.IsBuilder 140 5 B b (Lib.byteCells l) w) (hBw : B ≤ w.heap.size) :
    Calls Try.prog 127 #[.pointer (some ⟨b, 0, none⟩)] w fun e w' => e = .returned (.string ⟨l.toArray⟩) ∧ Below B w w' := Any.Builder_String_any Try.laysC169 Try.Builder_Extra_C B b l w h hBw
end Go.Proofs
set_option linter.unusedSimpArgs false
set_option linter.unusedVariables false
namespace Go.Proofs
open Go.Shelf Go.RowKit Go.Lib Go.Ae
set_option linter.unusedVariables false
def Try.laysC212_ren : Go.Shelf.Ren := ⟨fun | 212 => 164 | 263 => 176 | 264 => 177 | n => n, fun | 46 => 173 | 51 => 184 | 146 => 185 | 53 => 154 | 148 => 187 | n => n, fun | n => n⟩
theorem Try.laysC212 : Go.Proofs.Lays.n212 Try.prog Try.laysC212_ren := {
  mixed := by kernel_rfl
  f212 := Try.func164.trans (congrArg some (by kernel_rfl))
  f263 := Try.func176.trans (congrArg some (by kernel_rfl))
  f264 := Try.func177.trans (congrArg some (by kernel_rfl))
  t46 := Try.underlying173
  a46 := Try.isAgg173
  z46 := Try.sizeOf173
  v46 := Try.zeroValue173
  t51 := Try.underlying184
  a51 := Try.isAgg184
  z51 := Try.sizeOf184
  v51 := Try.zeroValue184
  t53 := Try.underlying154
  a53 := Try.isAgg154
  z53 := Try.sizeOf154
  v53 := Try.zeroValue154
  t146 := Try.underlying185
  a146 := Try.isAgg185
  z146 := Try.sizeOf185
  v146 := Try.zeroValue185
  t148 := Try.underlying187
  a148 := Try.isAgg187
  z148 := Try.sizeOf187
  v148 := Try.zeroValue187 }
theorem mulK (k : Nat) (hk : k ≤ 4) (w : World) : Calls Try.prog 164 #[.int .u64 1, .int .u64 (k : Int)] w fun e w' => e = .returned (.tuple #[.int .u64 0, .int .u64 (k : Int)]) ∧ w' = w := by
  have h := Any.bits_Mul Try.laysC212 1 k (by omega) (by omega) w
  have e1 : 1 * k / 18446744073709551616 = 0 := by omega
  have e2 : 1 * k % 18446744073709551616 = k := by omega
  rw [e1, e2] at h
  exact h
theorem makeK (k : Nat) (hk : k ≤ 4) (w : World) : (Instr.makeSlice 36 (.int .i64 (k : Int)) (.int .i64 (k : Int))).run Try.prog w = .ok (.slice (some ⟨w.heap.size, 0, none⟩) k k) (w.alloc (.cells (Array.replicate k (Value.int .i64 0)) 2)) := by
  have hs : (Try.prog.info? 2).map (fun i => (i.size, i.bytes, i.zero)) = some (1, 8, some (Value.int .i64 0)) := by kernel_rfl
  obtain ⟨it, hit, hit2⟩ := Option.map_eq_some_iff.1 hs
  simp only [Prod.mk.injEq] at hit2
  obtain ⟨i1, i2, i3⟩ := hit2
  have h := Go.Ae.run_makeSlice' (P := Try.prog) (w := w) (t := 36) (e := 2) (it := it) (z := Value.int .i64 0) (n := (k : Int)) (m := (k : Int)) (by kernel_rfl) hit i3 (by omega) (by omega) (by rw [i2]; omega) (by omega)
  rw [h, i1]
  have e : ((Array.range ((k : Int).toNat * 1)).map ((Value.int .i64 0).cells[· % (Value.int .i64 0).cells.size]!)) = Array.replicate k (Value.int .i64 0) := by
    have hz : (Value.int .i64 0).cells = #[Value.int .i64 0] := rfl
    rw [hz]
    apply Array.ext
    · simp
    · intro i h1 h2
      simp [Nat.mod_one]
  rw [e]
  simp
def arrK (k j : Nat) : List Value := List.replicate j (Value.int .i64 (-1)) ++ List.replicate (k - j) (Value.int .i64 0)
set_option maxHeartbeats 4000000 in
set_option maxRecDepth 100000 in
theorem repK (k bk o c : Nat) (w : World) (hk : 1 ≤ k ∧ k ≤ 4) (hcell : w.cell? ⟨bk, o, none⟩ = some (.int .i64 (-1))) (hbk : bk < w.heap.size) :
    Calls Try.prog 145 #[.slice (some ⟨bk, o, none⟩) 1 c, .int .i64 (k : Int)] w fun e w' => e = .returned (.slice (some ⟨w.heap.size, 0, none⟩) k k) ∧ Below w.heap.size w w' ∧ w'.heap[w.heap.size]? = some (.cells (List.replicate k (Value.int .i64 (-1))).toArray 2 (0, 0)) := by
  have HC := Lib.hid hcell
  clear hcell
  have hw8 : IntKind.wrap .u64 (k : Int) = (k : Int) := by
    simp only [IntKind.wrap, IntKind.signed, IntKind.bits]; simp; omega
  go_enter Try.func145, Try.ntmps145
  go_wp2_with fail
  refine (mulK k hk.2 _).mono ?_
  rintro e w1 ⟨rfl, rfl⟩
  have hk0 : (0 : Int) ≤ k := by omega
  have hk4 : (k : Int) ≤ 4 := by omega
  have MK := Lib.hid (makeK k hk.2 w1)
  go_wp2_with fail
  rw [MK.out]
  go_wp2_with fail
  have hnew : (w1.alloc (Obj.cells (Array.replicate k (Value.int IntKind.i64 0)) 2)).heap[w1.heap.size]? = some (.cells (Array.replicate k (Value.int IntKind.i64 0)) 2 (0, 0)) := heap_alloc_new w1 _
  have hcp := run_copy_row (P := Try.prog) (w1.alloc (Obj.cells (Array.replicate k (Value.int IntKind.i64 0)) 2)) 36 36 3 2 w1.heap.size 0 k k ⟨bk, o, none⟩ 1 c (Array.replicate k (Value.int IntKind.i64 0)) 2 [Value.int .i64 (-1)] (by kernel_rfl) (by kernel_rfl) hnew (Nat.min_eq_left hk.1).symm (fun j v hv => by
    match j, hv with
    | 0, hv =>
      cases hv
      rw [Addr.add_lit]
      rw [World.cell?_alloc_past _ _ _ (by exact hbk)]
      exact HC.out
    | j + 1, hv => simp at hv) (by simp; omega) (by simp [Value.oneCell'])
  have hg2 := setRow_heap (w1.alloc (Obj.cells (Array.replicate k (Value.int IntKind.i64 0)) 2)) w1.heap.size _ ((Array.replicate k (Value.int IntKind.i64 0)).toList.take 0 ++ [Value.int .i64 (-1)] ++ (Array.replicate k (Value.int IntKind.i64 0)).toList.drop (0 + [Value.int .i64 (-1)].length)).toArray 2 (0, 0) hnew
  have hb2 : Below w1.heap.size w1 ((w1.alloc (Obj.cells (Array.replicate k (Value.int IntKind.i64 0)) 2)).setRow w1.heap.size ((Array.replicate k (Value.int IntKind.i64 0)).toList.take 0 ++ [Value.int .i64 (-1)] ++ (Array.replicate k (Value.int IntKind.i64 0)).toList.drop (0 + [Value.int .i64 (-1)].length)).toArray) := below_setRow ((Below.refl _ _).alloc (Nat.le_refl _) _) (Nat.le_refl _) _
  have hs2 : ((w1.alloc (Obj.cells (Array.replicate k (Value.int IntKind.i64 0)) 2)).setRow w1.heap.size ((Array.replicate k (Value.int IntKind.i64 0)).toList.take 0 ++ [Value.int .i64 (-1)] ++ (Array.replicate k (Value.int IntKind.i64 0)).toList.drop (0 + [Value.int .i64 (-1)].length)).toArray).heap.size = w1.heap.size + 1 := by simp [World.setRow]
  have ha1 : ((Array.replicate k (Value.int IntKind.i64 0)).toList.take 0 ++ [Value.int .i64 (-1)] ++ (Array.replicate k (Value.int IntKind.i64 0)).toList.drop (0 + [Value.int .i64 (-1)].length)) = arrK k 1 := by
    simp [arrK]
  rw [ha1] at hg2 hb2 hs2 hcp
  rw [hcp]
  clear hcp hnew ha1
  generalize (w1.alloc (Obj.cells (Array.replicate k (Value.int IntKind.i64 0)) 2)).setRow w1.heap.size (arrK k 1).toArray = w2 at *
  have G2 := Lib.hid hg2
  have B2 := Lib.hid hb2
  clear hg2 hb2 hs2
  go_wp2_with fail
  go_loopw [8] (fun i wr => ∃ j : Nat, (1 ≤ j ∧ j ≤ k) ∧ i = .int .i64 (j : Int) ∧ Hid (wr.heap[w1.heap.size]? = some (.cells (arrK k j).toArray 2 (0, 0))) ∧ Hid (Below w1.heap.size w1 wr)) (fun i _ => k - (RowKit.intOf i).toNat)
  case atStart => exact ⟨1, ⟨Nat.le_refl _, hk.1⟩, rfl, G2, B2⟩
  case round =>
    obtain ⟨j, hj, rfl, HG, HB⟩ := hrel
    by_cases hjk : j < k
    · have hj0 : (0 : Int) ≤ j := by omega
      have hjk' : (j : Int) ≤ k := by omega
      have hne : ¬ k = j := by omega
      go_wp2_with fail
      have hbd : Below w1.heap.size w1 wr.drew := HB.out.trans ⟨rfl, rfl, rfl, Nat.le_refl _, fun _ _ => rfl⟩
      have HBD := Lib.hid hbd
      clear hbd
      obtain ⟨mm, hmm, hmin⟩ : ∃ mm, mm = Nat.min j (k - j) ∧ (mm ≤ j ∧ mm ≤ k - j ∧ 0 < mm) := ⟨Nat.min j (k - j), rfl, Nat.min_le_left _ _, Nat.min_le_right _ _, by show 0 < min j (k - j); omega⟩
      have HMM := Lib.hid hmm
      clear hmm
      have hsrc : ∀ (i : Nat) v, (List.replicate mm (Value.int IntKind.i64 (-1)))[i]? = some v → wr.drew.cell? ((⟨w1.heap.size, 0, none⟩ : Addr).add i) = some v := fun i v hv => by
        have hi : i < mm := by have := (List.getElem?_eq_some_iff.1 hv).1; simpa using this
        rw [Addr.add_lit]
        have hc : wr.drew.cell? ⟨w1.heap.size, 0 + i, none⟩ = (arrK k j).toArray[0 + i]? := Lib.cell_of_heap (w := wr.drew) HG.out (0 + i)
        rw [hc, Nat.zero_add]
        rw [List.getElem?_replicate, if_pos hi] at hv
        simp only [List.getElem?_toArray, arrK]
        rw [List.getElem?_append_left (by simp; omega), List.getElem?_replicate, if_pos (by omega)]
        exact hv
      have SRC := Lib.hid hsrc
      clear hsrc
      have hal : (arrK k j).length = k := by simp [arrK]; omega
      have hsp : splice (arrK k j) j (List.replicate mm (Value.int IntKind.i64 (-1))) = arrK k (j + mm) := by
        have e1 : (arrK k j).take j = List.replicate j (Value.int IntKind.i64 (-1)) := by simp [arrK, List.take_append]
        have e2 : (arrK k j).drop (j + mm) = List.replicate (k - (j + mm)) (Value.int IntKind.i64 0) := by
          simp only [arrK, List.drop_append, List.drop_replicate, List.length_replicate]
          have e3 : j - (j + mm) = 0 := by omega
          have e4 : k - j - (j + mm - j) = k - (j + mm) := by omega
          rw [e3, e4]; rfl
        simp only [splice, List.length_replicate]
        rw [e1, e2, ← List.append_assoc, List.replicate_append_replicate]
        rfl
      have SP := Lib.hid hsp
      have AL := Lib.hid hal
      clear hsp hal
      go_region_law (refine step_copy_splice rfl (.tmp 41) (.tmp 44) 36 36 rfl 2 (by kernel_rfl) (by kernel_rfl) (some ⟨w1.heap.size, j, none⟩) (some ⟨w1.heap.size, 0, none⟩) (k - j) (k - j) j k (by simp [Act.eval, Act.put]) (by simp [Act.eval, Act.put]) w1.heap.size j (arrK k j) 2 HG.out (List.replicate mm (Value.int .i64 (-1))) (by rw [List.length_replicate]; exact HMM.out) (fun _ => ⟨rfl, _, rfl, SRC.out⟩) (by rw [AL.out]; simp; omega) (by simp [Value.oneCell']) w1.heap.size w1 HBD.out (Nat.le_refl _) ?_; intro w4 hg4 hb4)
      rw [SP.out] at hg4
      have HB4 := Lib.hid hb4
      clear hb4
      go_wp2
      have hsum : IntKind.i64.wrap ((j : Int) + (mm : Int)) = ((j + mm : Nat) : Int) := by rw [Go.Ae.wrap64 ⟨by omega, by omega⟩]; omega
      refine ⟨?_, ?_⟩
      · repeat apply Exists.intro
        refine ⟨⟨j + mm, ⟨by omega, by omega⟩, ?_, hg4, HB4⟩, rfl⟩
        show Value.int IntKind.i64 (IntKind.i64.wrap ((j : Int) + (mm : Int))) = _
        rw [hsum]
      · show k - (IntKind.i64.wrap ((j : Int) + (mm : Int))).toNat < _
        rw [hsum]
        simp [RowKit.intOf]
        omega
    · have : j = k := by omega
      subst this
      have hfin : arrK j j = List.replicate j (Value.int IntKind.i64 (-1)) := by simp [arrK]
      have hg5 := HG.out
      rw [hfin] at hg5
      have HG5 := Lib.hid hg5
      clear hg5 hfin
      go_wp2
      go_ret
      exact ⟨rfl, HB.out, HG5.out⟩
end Go.Proofs
set_option linter.unusedSimpArgs false
set_option linter.unusedVariables false
namespace Go.Proofs
open Go.Shelf Go.RowKit Go.Lib Go.Ae
set_option linter.unusedVariables false
theorem cellK (a b u n p : Nat) (z : Int) (sv : Value) (w : World) (ha : 1 ≤ a ∧ a ≤ 4) (hu : 1 ≤ u ∧ u ≤ 8) (hp : p ≤ 1000) (hz : z = p) :
    Calls Try.prog 101 #[.agg #[.int .i64 a, .int .i64 b, .int .i64 u, .int .i64 n, sv], .int .i64 z] w fun e w' => e = .returned (.tuple #[.int .i64 (C0.colN a u p : Nat), .int .i64 (C0.offN a u p : Nat)]) ∧ Below w.heap.size w w' := by
  subst hz
  have h := (Go.Ae.call_ok (P := Try.prog) C0.progOk (by kernel_rfl) 2).ok 101 _ [] _ (C0.cell 0 a b u n p ha hu hp)
  refine (h w (fun _ => False) ⟨fun _ _ _ => none, fun _ => 0⟩ _ ⟨fun B h => h.elim⟩ (fun _ _ => rfl) ?_ ?_).mono ?_
  · refine ⟨rfl, rfl, rfl, Nat.le_refl _, fun B _ _ => rfl, (fun _ _ _ _ h => by cases h), (fun _ _ _ h => by cases h), (fun _ _ _ _ h => by cases h), (fun _ _ _ _ _ _ _ h => by cases h), fun lv s b p ys hb hn => ?_⟩
    cases lv <;> simp [St.blk, St.heap, Heap.get] at hb
  · refine ⟨rfl, fun i v hv => ?_⟩
    match i, hv with
    | 0, hv =>
      cases hv
      refine .agg _ _ rfl fun i v hv => ?_
      match i, hv with
      | 0, hv => cases hv; exact .int _ _
      | 1, hv => cases hv; exact .int _ _
      | 2, hv => cases hv; exact .int _ _
      | 3, hv => cases hv; exact .int _ _
      | 4, hv => cases hv; exact .undef _
      | i + 5, hv => simp at hv
    | 1, hv => cases hv; exact .int _ _
    | i + 2, hv => simp at hv
  · rintro e w' ⟨cv, g', rfl, hW, _, hv⟩
    have hb : Below w.heap.size w w' := ⟨hW.os, hW.tape, hW.output, hW.size, fun B hB => hW.keep B hB (fun _ _ _ => by simp)⟩
    refine ⟨?_, hb⟩
    cases hv with
    | tup _ arr hl hr =>
      have h0 := hr 0 _ rfl
      have h1 := hr 1 _ rfl
      have e0 := h0.int_inv
      have e1 := h1.int_inv
      have hs : arr.size = 2 := hl.symm
      congr 2
      apply Array.ext
      · simp [hs]
      · intro i hi hj
        rcases i with _ | _ | i
        · simpa [hs] using e0
        · simpa [hs] using e1
        · omega
theorem builderAt_below {T e : TypeId} {B b : Nat} {p : Value} {bs : List Value} {w w' : World} (h : Lib.BuilderAt T e B b p bs w) (hb : Below w.heap.size w w') : Lib.BuilderAt T e B b p bs w' := by
  have old : ∀ (k : Nat) o, w.heap[k]? = some o → w'.heap[k]? = some o := fun k o ho => by
    rw [hb.block k (Array.getElem?_eq_some_iff.1 ho).1]; exact ho
  obtain ⟨hB, v, hbk, ⟨h1, h2⟩, hne⟩ := h
  refine ⟨hB, v, old _ _ hbk, ⟨h1, ?_⟩, hne⟩
  rcases h2 with h2 | ⟨g, cap, cur, e1, e2, e3, e4⟩
  · exact .inl h2
  · exact .inr ⟨g, cap, cur, e1, e2, old _ _ e3, e4⟩
theorem isBuilder_below {T e : TypeId} {B b : Nat} {bs : List Value} {w w' : World} (h : Lib.IsBuilder T e B b bs w) (hb : Below w.heap.size w w') : Lib.IsBuilder T e B b bs w' :=
  h.elim (fun h => .inl (builderAt_below h hb)) (fun h => .inr (builderAt_below h hb))
set_option maxHeartbeats 4000000 in
set_option maxRecDepth 100000 in
theorem bodyK (a b u n at_ m : Nat) (sv : Value) (bk o c : Nat) (cols : List ByteArray) (l : List UInt8) (w : World) (ha : 1 ≤ a ∧ a ≤ 4) (hu : 1 ≤ u ∧ u ≤ 8) (hm : at_ + m ≤ 1000) (hl : l.length = m)
    (hcells : ∀ (j : Nat) x, cols[j]? = some x → w.cell? ⟨bk, o + j, none⟩ = some (.string x)) (hbk : bk < w.heap.size) (hcap : cols.length ≤ c)
    (hget : ∀ i, i < m → ∃ s x, cols[C0.colN a u (at_ + i)]? = some s ∧ s.data.toList[C0.offN a u (at_ + i)]? = some x ∧ l[i]? = some x) :
    Calls Try.prog 95 #[.agg #[.int .i64 a, .int .i64 b, .int .i64 u, .int .i64 n, sv], .slice (some ⟨bk, o, none⟩) cols.length c, .int .i64 at_, .int .i64 m] w fun e w' => e = .returned (.string ⟨l.toArray⟩) ∧ Below w.heap.size w w' := by
  have HC := Lib.hid hcells
  have HG := Lib.hid hget
  have HL := Lib.hid hl
  clear hcells hget hl
  go_enter Try.func95, Try.ntmps95
  go_wp2_with fail
  go_loopw [10] (fun i wr => ∃ k : Nat, k ≤ m ∧ i = .int .i64 ((at_ : Int) + (k : Int)) ∧ Hid (Lib.IsBuilder 140 5 (w.heap.size + 1) (w.heap.size + 1) (Lib.byteCells (l.take k)) wr) ∧ Hid (Below (w.heap.size + 1) (w.alloc (Obj.cells #[Value.int IntKind.i64 ↑a, Value.int IntKind.i64 ↑b, Value.int IntKind.i64 ↑u, Value.int IntKind.i64 ↑n, sv] 61)) wr)) (fun i _ => at_ + m - (RowKit.intOf i).toNat)
  case atStart => 
    refine ⟨0, Nat.zero_le _, by simp, Lib.hid ?_, Lib.hid ?_⟩
    · have := Lib.fresh_isBuilder 140 5 (w.alloc (Obj.cells #[Value.int IntKind.i64 ↑a, Value.int IntKind.i64 ↑b, Value.int IntKind.i64 ↑u, Value.int IntKind.i64 ↑n, sv] 61))
      simpa [Lib.byteCells] using this
    · exact (Below.refl _ _).alloc (by simp) _
  case round =>
    obtain ⟨k, hk, rfl, HB, HW⟩ := hrel
    by_cases hkm : k < m
    · have hc : ∀ j, wr.cell? ⟨w.heap.size, j, none⟩ = (#[Value.int IntKind.i64 ↑a, Value.int IntKind.i64 ↑b, Value.int IntKind.i64 ↑u, Value.int IntKind.i64 ↑n, sv] : Array Value)[j]? := fun j => by
        rw [HW.out.cell (p := ⟨w.heap.size, j, none⟩) (by show w.heap.size < w.heap.size + 1; omega)]
        exact Lib.cell_of_heap (heap_alloc_new w _) j
      have c0 := hc 0
      have c1 := hc 1
      have c2 := hc 2
      have c3 := hc 3
      have c4 := hc 4
      simp at c0 c1 c2 c3 c4
      clear hc
      obtain ⟨s, x, g1, g2, g3⟩ := HG.out k hkm
      have hcl : C0.colN a u (at_ + k) < cols.length := (List.getElem?_eq_some_iff.1 g1).1
      have hol : C0.offN a u (at_ + k) < s.size := by have := (List.getElem?_eq_some_iff.1 g2).1; simpa using this
      have hcs := HC.out _ _ g1
      have hck := cellK a b u n (at_ + k) ((at_ : Int) + (k : Int)) sv wr ha hu (by omega) (by omega)
      generalize C0.colN a u (at_ + k) = cc at *
      generalize C0.offN a u (at_ + k) = oo at *
      have G1 := Lib.hid g1
      have G2 := Lib.hid g2
      have G3 := Lib.hid g3
      have CS := Lib.hid hcs
      have CK := Lib.hid hck
      clear g1 g2 g3 hcs hck
      go_wp2_with fail
      refine CK.out.mono ?_
      rintro e w1 ⟨rfl, hb1⟩
      have hsz : w.heap.size + 1 ≤ wr.heap.size := by have := HW.out.size; simpa using this
      have hcb : w1.cell? ⟨bk, o + cc, none⟩ = some (.string s) := by
        rw [hb1.cell (p := ⟨bk, o + cc, none⟩) (by show bk < wr.heap.size; omega), HW.out.cell (p := ⟨bk, o + cc, none⟩) (by show bk < w.heap.size + 1; omega)]
        rw [World.cell?_alloc_past _ _ _ (by exact hbk)]
        exact CS.out
      have hbd := isBuilder_below HB.out hb1
      have hle : (Lib.byteCells (l.take k)).length + 1 ≤ 140737488355328 := by rw [Lib.byteCells_length, List.length_take]; omega
      have hwr := Below.trans HW.out (hb1.mono hsz)
      have hsz1 : w.heap.size + 1 ≤ w1.heap.size := Nat.le_trans hsz hb1.size
      have hwb := Try.builder_WriteByte (w.heap.size + 1) (w.heap.size + 1) (Lib.byteCells (l.take k)) (s[oo].toNat : Int) w1 hbd hle hsz1
      have hx : s[oo] = x := by
        have h5 := G2.out
        rw [← bget, getElem?_pos s oo hol] at h5
        exact Option.some.inj h5
      have hnext : Lib.byteCells (l.take k) ++ [.int .u8 (s[oo].toNat : Int)] = Lib.byteCells (l.take (k + 1)) := by
        rw [hx, List.take_add_one, G3.out, Lib.byteCells_append]
        rfl
      rw [hnext] at hwb
      have WB := Lib.hid hwb
      have WR := Lib.hid hwr
      clear hwb hwr hbd hb1 hnext hx
      go_wp2_with fail
      refine WB.out.mono ?_
      rintro e w2 ⟨rfl, h2, hb2⟩
      have H2 := Lib.hid (Or.inr h2 : Lib.IsBuilder 140 5 (w.heap.size + 1) (w.heap.size + 1) _ w2)
      have HW2 := Lib.hid (WR.out.trans hb2)
      clear h2 hb2
      go_wp2
      exact ⟨⟨k + 1, by omega, by go_num, H2, HW2⟩, by simp [RowKit.intOf]; omega⟩
    · have : k = m := by omega
      subst this
      have hfull : l.take k = l := List.take_of_length_le (by have := HL.out; omega)
      have hB' := HB.out
      rw [hfull] at hB'
      have hsz : w.heap.size + 1 ≤ wr.heap.size := by have := HW.out.size; simpa using this
      have hst := Try.builder_String (w.heap.size + 1) (w.heap.size + 1) l wr hB' hsz
      have ST := Lib.hid hst
      clear hst hB' hfull
      go_wp2_with fail
      refine ST.out.mono ?_
      rintro e w5 ⟨rfl, hb5⟩
      have Hb5 := Lib.hid (HW.out.trans hb5)
      clear hb5
      go_wp2
      go_ret
      exact ⟨rfl, ((Below.refl _ _).alloc (Nat.le_refl _) _).trans (Hb5.out.mono (by omega))⟩
set_option maxHeartbeats 4000000 in
set_option maxRecDepth 100000 in
theorem bodyK0 (a b u n at_ : Nat) (sv : Value) (A : Option Addr) (k c : Nat) (w : World) (hat : at_ ≤ 1000) :
    Calls Try.prog 95 #[.agg #[.int .i64 a, .int .i64 b, .int .i64 u, .int .i64 n, sv], .slice A k c, .int .i64 at_, .int .i64 0] w fun e w' => e = .returned (.string ⟨#[]⟩) ∧ Below w.heap.size w w' := by
  have hst := Try.builder_String (w.heap.size + 1) (w.heap.size + 1) [] ((w.alloc (Obj.cells #[Value.int IntKind.i64 ↑a, Value.int IntKind.i64 ↑b, Value.int IntKind.i64 ↑u, Value.int IntKind.i64 ↑n, sv] 61)).alloc (Obj.cells #[Value.pointer none, Value.slice none 0 0] 140)) (by
    have := Lib.fresh_isBuilder 140 5 (w.alloc (Obj.cells #[Value.int IntKind.i64 ↑a, Value.int IntKind.i64 ↑b, Value.int IntKind.i64 ↑u, Value.int IntKind.i64 ↑n, sv] 61))
    simpa [Lib.byteCells] using this) (by simp)
  have ST := Lib.hid hst
  clear hst
  go_enter Try.func95, Try.ntmps95
  go_wp2_with fail
  go_loopw [10] (fun i wr => i = .int .i64 (at_ : Int) ∧ wr = ((w.alloc (Obj.cells #[Value.int IntKind.i64 ↑a, Value.int IntKind.i64 ↑b, Value.int IntKind.i64 ↑u, Value.int IntKind.i64 ↑n, sv] 61)).alloc (Obj.cells #[Value.pointer none, Value.slice none 0 0] 140))) (fun i _ => 0)
  case atStart => exact ⟨rfl, rfl⟩
  case round =>
    obtain ⟨rfl, rfl⟩ := hrel
    go_wp2_with fail
    refine ST.out.mono ?_
    rintro e w5 ⟨rfl, hb5⟩
    have Hb5 := Lib.hid hb5
    clear hb5
    go_wp2
    go_ret
    exact ⟨rfl, (((Below.refl _ _).alloc (Nat.le_refl _) _).alloc (by simp) _).trans (Hb5.out.mono (by omega))⟩
end Go.Proofs
