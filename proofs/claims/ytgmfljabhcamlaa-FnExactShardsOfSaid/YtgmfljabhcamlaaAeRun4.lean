/- More of the machine's operations, run: slices, strings, fields. -/
import Derived.Test.YtgmfljabhcamlaaAeRun3
namespace Go.Ae
open Go.RowKit
set_option linter.unusedVariables false
set_option linter.unusedSimpArgs false
section
variable {P : Program} {w w0 : World} {M : Nat → Nat → Path → Option Nat} {R : Nat → Prop} {S : St} {g : G} {a : Act} {o : Oper}

theorem run_sizeOf' {t : TypeId} {i : TypeInfo} (h : P.info? t = some i) : (sizeOf t).run P w = .ok i.size w := by simp [sizeOf, typeInfo, h]

theorem run_sliceBounds {isS : Bool} {len cap h l : Nat} {lo hi : Option Operand} {lo' hi' : Option X} {cell : Addr → Option Value} (hT : TRel S g cell a) (h1 : cO P lo = some lo') (h2 : cO P hi = some hi') (hb : bound len len (evalO S hi') = some h)
    (lb : bound 0 h (evalO S lo') = some l) (hcap : len ≤ cap) : (Instr.sliceBounds isS len cap (lo.map a.eval) (hi.map a.eval) none).run P w = .ok (l, h, cap) w ∧ l ≤ h ∧ h ≤ len := by
  have e2 := run_bound (P := P) (w := w) (y0 := cap) (code := if isS then .sliceAcap else .sliceAlen) hT h2 hb hcap (Nat.le_refl _)
  have e1 := run_bound (P := P) (w := w) (y0 := h) (code := .sliceB) hT h1 lb (Nat.le_refl _) (Nat.zero_le _)
  refine ⟨?_, e1.2, e2.2⟩
  cases hi with
  | none =>
    have e2' := e2.1; simp at e2'; subst e2'
    cases lo with
    | none => have e1' := e1.1; simp at e1'; subst e1'; simp [Instr.sliceBounds]
    | some x => have e1' := e1.1; simp [Instr.sliceBounds]; simp at e1'; rw [e1']; rfl
  | some y =>
    have e2' := e2.1; simp at e2'
    cases lo with
    | none => have e1' := e1.1; simp at e1'; subst e1'; simp [Instr.sliceBounds]; rw [e2']; rfl
    | some x => have e1' := e1.1; simp at e1'; simp [Instr.sliceBounds]; rw [e2']; simp; rw [e1']; rfl

theorem goes_cut_sl {t e : TypeId} {inf : TypeInfo} {x : Operand} {lo hi : Option Operand} {lo' hi' : Option X} {lv s ver : Nat} {p : Path} {off len h l : Nat} {b : Blk} {ys : List (List AV)} (ho : o.op = .slice t x lo hi none) (ht : P.underlying t = some (.slice e)) (hi0 : P.info? e = some inf)
    (hW : WRel w0 M R S g w) (hT : TRel S g (stab w0 R) a) (hv : VRel S g (stab w0 R) (.sl lv s ver p off len) (a.eval x)) (hat : S.at lv s ver p = some (b, ys)) (hp0 : p = [] → b.sz = inf.size) (hp1 : p = [] ∨ (ys.all fun r => r.length == inf.size) = true)
    (h1 : cO P lo = some lo') (h2 : cO P hi = some hi') (hb : bound len len (evalO S hi') = some h) (lb : bound 0 h (evalO S lo') = some l) : Goes P w0 M R S g a w o S (.sl lv s ver p (off + l) (h - l)) := by
  obtain ⟨hk, hs⟩ := hv.sl_inv
  obtain ⟨A, cap, he, c1, c2, c3⟩ := hs b ys hat
  obtain ⟨e1, e2, e3⟩ := run_sliceBounds (P := P) (w := w) (isS := true) (cap := cap) hT h1 h2 hb lb c1
  have hrun : (Instr.sliceAt t (a.eval x) (lo.map a.eval) (hi.map a.eval) (none.map a.eval)).run P w = .ok (.slice (if cap = l then A else A.map (·.add (l * inf.size))) (h - l) (cap - l)) w := by
    rw [he]
    simp [Instr.sliceAt, Instr.slice, run_underlying ht, e1, run_sizeOf' hi0]
  refine goes_same hW (run_of_value (s := Instr.sliceAt t (a.eval x) (lo.map a.eval) (hi.map a.eval) (none.map a.eval)) (by unfold execOp; simp only [ho]) hrun) ?_
  refine .sl _ _ _ _ _ _ _ hk ⟨_, _, _, rfl⟩ fun b' ys' hat' => ?_
  rw [hat] at hat'; cases hat'
  refine ⟨_, _, rfl, by omega, by omega, ?_⟩
  cases hB : g.θ lv s p with
  | none => rw [hB] at c3; obtain ⟨rfl, rfl⟩ := c3; simp
  | some B =>
    rw [hB] at c3
    obtain ⟨d1, d2⟩ := c3
    refine ⟨?_, fun hp => by have := d2 hp; have e : off + l + (cap - l) = off + cap := by omega
                             rw [e]; exact this⟩
    by_cases hcl : cap = l
    · left; omega
    · right
      rw [if_neg hcl]
      have hcs : csz b.sz p ys = inf.size ∨ l = 0 := by
        cases p with
        | nil => exact .inl (hp0 rfl)
        | cons q r =>
          have hp2 := hp1.resolve_left (by simp)
          by_cases hys : ys = []
          · subst hys; simp at c2; right; omega
          · left; exact rowSz_of (fun r hr => by simpa using List.all_eq_true.1 hp2 r hr) hys
      rcases d1 with d1 | d1
      · omega
      · rw [d1]
        simp only [Option.map_some, Addr.add_lit]
        congr 2
        rcases hcs with hcs | hcs
        · rw [hcs, Nat.add_mul]
        · subst hcs; simp

theorem getD_drop {xs : List (List AV)} {l h i c : Nat} {v : AV} (hv : cellAt ((xs.take h).drop l) i c = some v) : cellAt xs (l + i) c = some v ∧ l + i < h := by
  unfold cellAt at hv ⊢
  simp only [List.getElem?_drop, List.getElem?_take] at hv
  by_cases hlt : l + i < h
  · rw [if_pos hlt] at hv; exact ⟨hv, hlt⟩
  · rw [if_neg hlt] at hv; cases hv
theorem cellAt_mem {xs : List (List AV)} {i c : Nat} {v : AV} (h : cellAt xs i c = some v) : ∃ r ∈ xs, v ∈ r := by
  unfold cellAt at h
  split at h
  · rename_i r hr; exact ⟨r, List.mem_of_getElem? hr, List.mem_of_getElem? h⟩
  · cases h

theorem addr_add_add (ad : Addr) (m n : Nat) : (ad.add m).add n = ad.add (m + n) := by
  unfold Addr.add
  by_cases hm : m = 0
  · subst hm; simp
  · by_cases hn : n = 0
    · subst hn; simp [hm]
    · simp [hm, hn, Nat.add_assoc]
theorem goes_cut_rd {t e : TypeId} {inf : TypeInfo} {x : Operand} {lo hi : Option Operand} {lo' hi' : Option X} {fl : Bool} {ys : List (List AV)} {h l : Nat} (ho : o.op = .slice t x lo hi none) (ht : P.underlying t = some (.slice e)) (hi0 : P.info? e = some inf)
    (hW : WRel w0 M R S g w) (hT : TRel S g (stab w0 R) a) (hv : VRel S g (stab w0 R) (.rd fl ys) (a.eval x)) (hp1 : (ys.all fun r => r.length == inf.size) = true)
    (h1 : cO P lo = some lo') (h2 : cO P hi = some hi') (hb : bound ys.length ys.length (evalO S hi') = some h) (lb : bound 0 h (evalO S lo') = some l) : Goes P w0 M R S g a w o S (.rd fl ((ys.take h).drop l)) := by
  have hsize : ∀ r ∈ ys, r.length = inf.size := fun r hr => by simpa using List.all_eq_true.1 hp1 r hr
  generalize hx : a.eval x = cv at hv
  cases hv.rd_inv with
  | rd _ _ A cap sz f g1 g2 g3 g4 g5 =>
    obtain ⟨e1, e2, e3⟩ := run_sliceBounds (P := P) (w := w) (isS := true) (cap := cap) hT h1 h2 hb lb g1
    have hrun : (Instr.sliceAt t (a.eval x) (lo.map a.eval) (hi.map a.eval) (none.map a.eval)).run P w = .ok (.slice (if cap = l then A else A.map (·.add (l * inf.size))) (h - l) (cap - l)) w := by
      rw [hx]
      simp [Instr.sliceAt, Instr.slice, run_underlying ht, e1, run_sizeOf' hi0]
    refine goes_same hW (run_of_value (s := Instr.sliceAt t (a.eval x) (lo.map a.eval) (hi.map a.eval) (none.map a.eval)) (by unfold execOp; simp only [ho]) hrun) (.rd _ _ _ ?_)
    have hlen : ((ys.take h).drop l).length = h - l := by simp; omega
    rw [← hlen]
    refine .rd fl _ _ _ inf.size (fun i c => f (l + i) c) (by rw [hlen]; omega) (fun r hr => hsize r (List.mem_of_mem_take (List.mem_of_mem_drop hr)))
      (fun hf r hr => g3 hf r (List.mem_of_mem_take (List.mem_of_mem_drop hr))) (fun i c v hv => ?_) (fun i c v hv => g5 _ _ _ (getD_drop hv).1)
    obtain ⟨hc, hlt⟩ := getD_drop hv
    obtain ⟨ad, hA, hcell⟩ := g4 _ _ _ hc
    have hss : sz = inf.size := by
      obtain ⟨r, hr, _⟩ := cellAt_mem hc
      rw [← g2 r hr, hsize r hr]
    rw [if_neg (by omega), hA]
    refine ⟨_, rfl, ?_⟩
    rw [addr_add_add, ← hss]
    have e : l * sz + (i * sz + c) = (l + i) * sz + c := by rw [Nat.add_mul]; omega
    rw [e]; exact hcell
theorem goes_cut_nil {t e : TypeId} {inf : TypeInfo} {x : Operand} {lo hi : Option Operand} {lo' hi' : Option X} {fl : Bool} {z h l : Nat} (ho : o.op = .slice t x lo hi none) (ht : P.underlying t = some (.slice e)) (hi0 : P.info? e = some inf)
    (hW : WRel w0 M R S g w) (hT : TRel S g (stab w0 R) a) (hv : VRel S g (stab w0 R) (.nil fl z) (a.eval x))
    (h1 : cO P lo = some lo') (h2 : cO P hi = some hi') (hb : bound 0 0 (evalO S hi') = some h) (lb : bound 0 h (evalO S lo') = some l) : Goes P w0 M R S g a w o S (.nil fl z) := by
  obtain ⟨e1, e2, e3⟩ := run_sliceBounds (P := P) (w := w) (isS := true) (cap := 0) hT h1 h2 hb lb (Nat.le_refl _)
  have hh : h = 0 := by omega
  have hl : l = 0 := by omega
  subst hh; subst hl
  refine goes_same (cv := .slice none 0 0) hW (run_of_value (s := Instr.sliceAt t (a.eval x) (lo.map a.eval) (hi.map a.eval) (none.map a.eval)) (by unfold execOp; simp only [ho]) ?_) (.nil _ _)
  rw [hv.nil_inv]
  simp [Instr.sliceAt, Instr.slice, run_underlying ht, e1, run_sizeOf' hi0]
theorem goes_scut {t : TypeId} {x : Operand} {lo hi : Option Operand} {lo' hi' : Option X} {s : ByteArray} {h l : Nat} (ho : o.op = .slice t x lo hi none) (ht : P.underlying t = some .string)
    (hW : WRel w0 M R S g w) (hT : TRel S g (stab w0 R) a) (hv : VRel S g (stab w0 R) (.str s) (a.eval x))
    (h1 : cO P lo = some lo') (h2 : cO P hi = some hi') (hb : bound s.size s.size (evalO S hi') = some h) (lb : bound 0 h (evalO S lo') = some l) : Goes P w0 M R S g a w o S (.str (s.extract l h)) := by
  obtain ⟨e1, e2, e3⟩ := run_sliceBounds (P := P) (w := w) (isS := false) (cap := s.size) hT h1 h2 hb lb (Nat.le_refl _)
  refine goes_same (cv := .string (s.extract l h)) hW (run_of_value (s := Instr.sliceAt t (a.eval x) (lo.map a.eval) (hi.map a.eval) (none.map a.eval)) (by unfold execOp; simp only [ho]) ?_) (.str _)
  rw [hv.str_inv]
  simp [Instr.sliceAt, Instr.slice, run_underlying ht, e1]

theorem goes_faddr_own {s0 : TypeId} {x : Operand} {f : Nat} {fs : Array Field} {fd : Field} {inf : TypeInfo} {lv s ver : Nat} {p : Path} {i c : Nat} {b : Blk} {ys : List (List AV)} (ho : o.op = .fieldAddr s0 x f) (ht : P.underlying s0 = some (.struct fs)) (hf : fs[f]? = some fd) (hi : P.info? fd.type = some inf) (hpos : 0 < inf.size)
    (hW : WRel w0 M R S g w) (hv : VRel S g (stab w0 R) (.ptr lv s ver p i c) (a.eval x)) (hat : S.at lv s ver p = some (b, ys)) : Goes P w0 M R S g a w o S (.ptr lv s ver p i (c + fd.offset)) := by
  obtain ⟨hk, hs⟩ := hv.ptr_inv
  obtain ⟨B, hB, he⟩ := hs b ys hat
  have hrun : (Instr.fieldAt s0 (a.eval x) f).run P w = .ok (.pointer (some ⟨B, i * csz b.sz p ys + c + fd.offset, none⟩)) w := by
    rw [he]
    simp [Instr.fieldAt, run_underlying ht, hf, Instr.sureAddr, fieldPlace, run_sizeOf' hi, show inf.size ≠ 0 by omega, Addr.add_lit]
  refine goes_same hW (run_of_value (s := Instr.fieldAt s0 (a.eval x) f) (by unfold execOp; simp only [ho]) hrun) ?_
  refine .ptr _ _ _ _ _ _ _ hk ⟨_, rfl⟩ fun b' ys' hat' => ?_
  rw [hat] at hat'; cases hat'
  exact ⟨B, hB, by rw [Nat.add_assoc]⟩
theorem goes_faddr_rd {s0 : TypeId} {x : Operand} {f : Nat} {fs : Array Field} {fd : Field} {inf : TypeInfo} {cs : List AV} (ho : o.op = .fieldAddr s0 x f) (ht : P.underlying s0 = some (.struct fs)) (hf : fs[f]? = some fd) (hi : P.info? fd.type = some inf) (hpos : 0 < inf.size)
    (hW : WRel w0 M R S g w) (hv : VRel S g (stab w0 R) (.rptr cs) (a.eval x)) : Goes P w0 M R S g a w o S (.rptr (cs.drop fd.offset)) := by
  generalize hx : a.eval x = cv at hv
  cases hv.rptr_inv with
  | rptr ad cs f0 hc hr =>
    have hrun : (Instr.fieldAt s0 (a.eval x) f).run P w = .ok (.pointer (some (ad.add fd.offset))) w := by
      rw [hx]
      simp [Instr.fieldAt, run_underlying ht, hf, Instr.sureAddr, fieldPlace, run_sizeOf' hi, show inf.size ≠ 0 by omega]
    refine goes_same hW (run_of_value (s := Instr.fieldAt s0 (a.eval x) f) (by unfold execOp; simp only [ho]) hrun) (.rptr _ _ ?_)
    refine .rptr _ _ (fun c => f0 (fd.offset + c)) (fun c v hv => ?_) (fun c v hv => hr _ v (by simpa using hv))
    rw [addr_add_add]
    exact hc _ v (by simpa using hv)

theorem goes_iaddr_own {t e : TypeId} {inf : TypeInfo} {x y : Operand} {lv s ver : Nat} {p : Path} {off len : Nat} {k : IntKind} {n : Int} {b : Blk} {ys : List (List AV)} {row : List AV} (ho : o.op = .indexAddr t x y) (ht : P.underlying t = some (.slice e)) (hi : P.info? e = some inf)
    (hW : WRel w0 M R S g w) (hv : VRel S g (stab w0 R) (.sl lv s ver p off len) (a.eval x)) (hy : VRel S g (stab w0 R) (.int k n) (a.eval y)) (h0 : 0 ≤ n ∧ n < len) (hat : S.at lv s ver p = some (b, ys)) (hrow : ys[off + n.toNat]? = some row) (hsz : row.length = inf.size) :
    Goes P w0 M R S g a w o S (.ptr lv s ver p (off + n.toNat) 0) := by
  obtain ⟨hk, hs⟩ := hv.sl_inv
  obtain ⟨A, cap, he, c1, c2, c3⟩ := hs b ys hat
  obtain ⟨hb, hver, hn⟩ := at_blk hat
  have hne : ys ≠ [] := fun h => by rw [h] at hrow; simp at hrow
  obtain ⟨d1, d2, d3⟩ := hW.cont lv s b p ys hb hn
  have hcsz : csz b.sz p ys = inf.size := by rw [← hsz]; exact (csz_row d1 hrow).symm
  cases hB : g.θ lv s p with
  | none => rw [hB] at d3; exact absurd d3 hne
  | some B =>
    rw [hB] at c3
    have hA := c3.1.resolve_left (by omega)
    have hrun : (Instr.indexAt t (a.eval x) (a.eval y)).run P w = .ok (.pointer (some ⟨B, (off + n.toNat) * csz b.sz p ys + 0, none⟩)) w := by
      rw [he, hy.int_inv, hA]
      simp [Instr.indexAt, asIntOf, run_underlying ht, h0, run_sizeOf' hi, Addr.add_lit, hcsz, Nat.add_mul]
    refine goes_same hW (run_of_value (s := Instr.indexAt t (a.eval x) (a.eval y)) (by unfold execOp; simp only [ho]) hrun) ?_
    refine .ptr _ _ _ _ _ _ _ hk ⟨_, rfl⟩ fun b' ys' hat' => ?_
    rw [hat] at hat'; cases hat'
    exact ⟨B, hB, rfl⟩
theorem goes_iaddr_rd {t e : TypeId} {inf : TypeInfo} {x y : Operand} {fl : Bool} {k : IntKind} {n : Int} {ys : List (List AV)} {row : List AV} (ho : o.op = .indexAddr t x y) (ht : P.underlying t = some (.slice e)) (hi : P.info? e = some inf) (hpos : 0 < inf.size)
    (hW : WRel w0 M R S g w) (hv : VRel S g (stab w0 R) (.rd fl ys) (a.eval x)) (hy : VRel S g (stab w0 R) (.int k n) (a.eval y)) (h0 : 0 ≤ n) (hrow : ys[n.toNat]? = some row) (hsz : row.length = inf.size) :
    Goes P w0 M R S g a w o S (.rptr row) := by
  generalize hx : a.eval x = cv at hv
  have hlt : n.toNat < ys.length := (List.getElem?_eq_some_iff.1 hrow).1
  cases hv.rd_inv with
  | rd _ _ A cap sz f g1 g2 g3 g4 g5 =>
    have hss : sz = inf.size := by rw [← g2 row (List.mem_of_getElem? hrow), hsz]
    obtain ⟨ad, hA, _⟩ := g4 n.toNat 0 (row[0]'(by omega)) (by simp [cellAt, hrow, show 0 < row.length by omega])
    have hrun : (Instr.indexAt t (a.eval x) (a.eval y)).run P w = .ok (.pointer (some (ad.add (n.toNat * inf.size)))) w := by
      rw [hx, hy.int_inv, hA]
      simp [Instr.indexAt, asIntOf, run_underlying ht, show (0 ≤ n ∧ n < (ys.length : Int)) by omega, run_sizeOf' hi]
    refine goes_same hW (run_of_value (s := Instr.indexAt t (a.eval x) (a.eval y)) (by unfold execOp; simp only [ho]) hrun) (.rptr _ _ ?_)
    refine .rptr _ _ (fun c => f n.toNat c) (fun c v hv => ?_) (fun c v hv => g5 n.toNat c v (by rw [cellAt_row hrow]; exact hv))
    obtain ⟨ad', hA', hcell⟩ := g4 n.toNat c v (by rw [cellAt_row hrow]; exact hv)
    rw [hA] at hA'; cases hA'
    rw [addr_add_add, ← hss]; exact hcell

theorem goes_idx {t : TypeId} {x y : Operand} {s : ByteArray} {k : IntKind} {n : Int} {c : UInt8} (ho : o.op = .index t x y) (ht : P.underlying t = some .string) (hW : WRel w0 M R S g w) (hv : VRel S g (stab w0 R) (.str s) (a.eval x)) (hy : VRel S g (stab w0 R) (.int k n) (a.eval y))
    (h0 : 0 ≤ n) (hc : s[n.toNat]? = some c) : Goes P w0 M R S g a w o S (.int .u8 c.toNat) :=
  goes_same (cv := .int .u8 c.toNat) hW (run_of_value (s := Instr.index t (a.eval x) (a.eval y)) (by unfold execOp; simp only [ho]) (by rw [hv.str_inv, hy.int_inv]; simp [Instr.index, asIntOf, run_underlying ht, h0, hc])) (.int _ _)
theorem goes_ext {x : Operand} {i : Nat} {vs : List AV} {v : AV} (ho : o.op = .extract x i) (hW : WRel w0 M R S g w) (hv : VRel S g (stab w0 R) (.tup vs) (a.eval x)) (hi : vs[i]? = some v) : Goes P w0 M R S g a w o S v := by
  obtain ⟨arr, he, hl, hr⟩ := hv.tup_inv
  have hlt : i < arr.size := by rw [← hl]; exact (List.getElem?_eq_some_iff.1 hi).1
  exact goes_same (cv := arr.getD i undef) hW (run_of_value (s := Instr.extract (a.eval x) i) (by unfold execOp; simp only [ho]) (by rw [he]; simp [Instr.extract, hlt])) (hr i v hi)
theorem goes_len {x : Operand} {t : TypeId} {d : TypeDesc} {v : AV} {n : Nat} (ho : o.op = .call { callee := .builtin .len, args := #[x], argTypes := #[t] }) (ht : P.underlying t = some d) (hW : WRel w0 M R S g w) (hv : VRel S g (stab w0 R) v (a.eval x))
    (hd : (d = .string ∧ ∃ s, a.eval x = .string s ∧ n = s.size) ∨ (∃ e, d = .slice e) ∧ ∃ A c, a.eval x = .slice A n c) : Goes P w0 M R S g a w o S (.int .i64 n) := by
  refine goes_same (cv := .int .i64 n) hW ?_ (.int _ _)
  unfold execOp
  rcases hd with ⟨rfl, s, h1, rfl⟩ | ⟨⟨e, rfl⟩, A, c, h1⟩
  · simp [ho, resolve, invoke, builtin, Builtin.len_, run_underlying ht, h1, goInt]
  · simp [ho, resolve, invoke, builtin, Builtin.len_, run_underlying ht, h1, goInt]
theorem goes_max {x y : Operand} {t u : TypeId} {k : IntKind} {m n : Int} (ho : o.op = .call { callee := .builtin .max, args := #[x, y], argTypes := #[t, u] }) (hW : WRel w0 M R S g w) (h1 : VRel S g (stab w0 R) (.int k m) (a.eval x)) (h2 : VRel S g (stab w0 R) (.int k n) (a.eval y)) : Goes P w0 M R S g a w o S (.int k (if n > m then n else m)) := by
  refine goes_same (cv := .int k (if n > m then n else m)) hW ?_ (.int _ _)
  unfold execOp
  simp [ho, resolve, invoke, builtin, Builtin.max_, h1.int_inv, h2.int_inv, Builtin.max2]
theorem goes_min {x y : Operand} {t u : TypeId} {k : IntKind} {m n : Int} (ho : o.op = .call { callee := .builtin .min, args := #[x, y], argTypes := #[t, u] }) (hW : WRel w0 M R S g w) (h1 : VRel S g (stab w0 R) (.int k m) (a.eval x)) (h2 : VRel S g (stab w0 R) (.int k n) (a.eval y)) : Goes P w0 M R S g a w o S (.int k (if n < m then n else m)) := by
  refine goes_same (cv := .int k (if n < m then n else m)) hW ?_ (.int _ _)
  unfold execOp
  simp [ho, resolve, invoke, builtin, Builtin.min_, h1.int_inv, h2.int_inv, Builtin.min2]
end
end Go.Ae
