/- A delta is added to a striped object. -/
import Derived.Test.YtnfghcflpnlbiaaC3M20
import Derived.Test.YtnfghcflpnlbiaaC3M16
namespace Go.Ae.C3
set_option linter.unusedSimpArgs false
set_option linter.unusedVariables false
/-- A column with some bytes added from x on. -/
def putS (o : List UInt8) (x : Nat) (y : List UInt8) : List UInt8 := o.take x ++ sm ((o.drop x).take y.length) y ++ o.drop (x + y.length)
theorem putS_len {o y : List UInt8} {x : Nat} (h : x + y.length ≤ o.length) : (putS o x y).length = o.length := by
  have : (sm ((o.drop x).take y.length) y).length = y.length := by rw [sm_len]; simp; omega; simp; omega
  simp only [putS, List.length_append, this, List.length_take, List.length_drop]
  omega
theorem cloneT (k : Nat) (ws : List ByteArray) (hn : ws.length ≤ 1048576) : call code (k + 1) 120 [.rd true (rws encT ws)] [] = some ⟨.sl 0 0 0 [] 0 ws.length, [⟨0, 1, false, true, rws encT ws⟩], []⟩ :=
  clone_ok (enc := encT) (sz := 1) (bytes := 16) (zero := [.str ByteArray.empty]) rfl rfl (fun _ => rfl) (by omega) rfl rfl ws (by omega) (by omega) k
/-- The striped object with a delta added. -/
abbrev resW1 (a b u n : Nat) (ws : List ByteArray) : Res := ⟨.agg [.int .i64 a, .int .i64 b, .int .i64 u, .int .i64 n, .sl 0 0 0 [] 0 ws.length], [⟨0, 1, false, true, rws encT ws⟩], []⟩
set_option maxRecDepth 100000 in
set_option maxHeartbeats 64000000 in
theorem take1 (k : Nat) (a b u n : Nat) (ws : List ByteArray) (hl : ws.length ≤ 1000) (p x : Nat) (hp : p < ws.length) (o y : List UInt8) (ho : ws[p] = B o) (hx : x + y.length ≤ o.length) (hsz : o.length ≤ 1000) :
    call code (k + 2) 121 [wAV a b u n (rws encT ws), .agg [.int .i64 p, .int .i64 x, .str (B y)]] [] = some (resW1 a b u n (ws.set p (B (putS o x y)))) := by
  refine call_run rfl fn121 rfl ?_
  have w1 : IntKind.wrap .i64 ((x : Int) + (y.length : Int)) = ((x + y.length : Nat) : Int) := by rw [wrap64 ⟨by omega, by omega⟩]; omega
  have c1 := fun k => cloneT k ws (by omega)
  have s1 := fun k => summed k ((o.drop x).take y.length) y (by simp; omega) (by simp; omega)
  have e1 : (B o).extract 0 x = B (o.take x) := by rw [B_cut]; simp
  have e2 : (B o).extract x (x + y.length) = B ((o.drop x).take y.length) := by rw [B_cut, Nat.add_sub_cancel_left]
  have e3 : (B o).extract (x + y.length) o.length = B (o.drop (x + y.length)) := by rw [B_cut, List.take_of_length_le (by simp)]
  have a1 := B_app (o.take x) (sm ((o.drop x).take y.length) y)
  have a2 := B_app (o.take x ++ sm ((o.drop x).take y.length) y) (o.drop (x + y.length))
  have hrl := rws_len (enc := encT) ws
  have hk := tkE (enc := encT) (l := ws) rfl
  have hg : ∀ hh : p < (rws encT ws).length, (rws encT ws)[p]'hh = [.str (B o)] := fun hh => by rw [rws_get, ho]; rfl
  have hset : (rws encT ws).set p [.str (B (putS o x y))] = rws encT (ws.set p (B (putS o x y))) := by rw [← rws_set]; rfl
  have hl2 : (ws.set p (B (putS o x y))).length = ws.length := by simp
  have hk2 := tkE (enc := encT) (l := ws.set p (B (putS o x y))) hl2
  unfold wAV resW1
  rw [hl2]
  unfold putS at *
  have l1 : (o.take x).length = x := by simp; omega
  have l2 : (sm ((o.drop x).take y.length) y).length = y.length := by rw [sm_len]; simp; omega; simp; omega
  have l3 : (o.take x ++ sm ((o.drop x).take y.length) y).length = x + y.length := by rw [List.length_append, l1, l2]
  have l4 : (o.drop (x + y.length)).length = o.length - (x + y.length) := by simp
  generalize rws encT (ws.set p (B (o.take x ++ sm ((o.drop x).take y.length) y ++ o.drop (x + y.length)))) = R' at *
  generalize rws encT ws = R at *
  generalize o.take x ++ sm ((o.drop x).take y.length) y = T1 at *
  generalize T1 ++ o.drop (x + y.length) = T2 at *
  generalize o.drop (x + y.length) = T3 at *
  generalize sm ((o.drop x).take y.length) y = T4 at *
  generalize (o.drop x).take y.length = T5 at *
  generalize o.take x = T6 at *
  generalize hxy : x + y.length = xy at *
  have d1 : x ≤ xy := by omega
  have d2 : x ≤ o.length := by omega
  have g1 : ¬ (9223372036854775807 : Int) < (T6.length : Int) + T4.length := by omega
  have g2 : ¬ (9223372036854775807 : Int) < (T1.length : Int) + T3.length := by omega
  simp [F121, hrl, hp, hg, w1, hk, rcall120, c1, e1, e2, e3, rcall147, s1, a1, a2, hset, hk2, hx, d1, d2, g1, g2]
set_option maxRecDepth 100000 in
set_option maxHeartbeats 64000000 in
theorem l05Take (k : Nat) (a b u n : Nat) (ws : List ByteArray) (hl : ws.length ≤ 1000) (p x : Nat) (hp : p < ws.length) (o y : List UInt8) (ho : ws[p] = B o) (hx : x + y.length ≤ o.length) (hsz : o.length ≤ 1000) :
    call code (k + 2) 119 [wAV a b u n (rws encT ws), .agg [.int .i64 p, .int .i64 x, .str (B y)]] [] = some (resW1 a b u n (ws.set p (B (putS o x y)))) := by
  refine call_run rfl fn119 rfl ?_
  have w1 : IntKind.wrap .i64 ((x : Int) + (y.length : Int)) = ((x + y.length : Nat) : Int) := by rw [wrap64 ⟨by omega, by omega⟩]; omega
  have c1 := fun k => cloneT k ws (by omega)
  have s1 := fun k => l02Sum k ((o.drop x).take y.length) y (by simp; omega) (by simp; omega)
  have e1 : (B o).extract 0 x = B (o.take x) := by rw [B_cut]; simp
  have e2 : (B o).extract x (x + y.length) = B ((o.drop x).take y.length) := by rw [B_cut, Nat.add_sub_cancel_left]
  have e3 : (B o).extract (x + y.length) o.length = B (o.drop (x + y.length)) := by rw [B_cut, List.take_of_length_le (by simp)]
  have a1 := B_app (o.take x) (sm ((o.drop x).take y.length) y)
  have a2 := B_app (o.take x ++ sm ((o.drop x).take y.length) y) (o.drop (x + y.length))
  have hall : ∀ y ∈ rws encT ws, y.length = 1 := fun y hy => by
    have := List.all_eq_true.1 (rws_all encT (sz := 1) (fun _ => rfl) ws) y hy
    simpa using this
  have hrl := rws_len (enc := encT) ws
  have hk := tkE (enc := encT) (l := ws) rfl
  have hg : ∀ hh : p < (rws encT ws).length, (rws encT ws)[p]'hh = [.str (B o)] := fun hh => by rw [rws_get, ho]; rfl
  have hset : (rws encT ws).set p [.str (B (putS o x y))] = rws encT (ws.set p (B (putS o x y))) := by rw [← rws_set]; rfl
  have hl2 : (ws.set p (B (putS o x y))).length = ws.length := by simp
  have hk2 := tkE (enc := encT) (l := ws.set p (B (putS o x y))) hl2
  unfold wAV resW1
  rw [hl2]
  unfold putS at *
  have l1 : (o.take x).length = x := by simp; omega
  have l2 : (sm ((o.drop x).take y.length) y).length = y.length := by rw [sm_len]; simp; omega; simp; omega
  have l3 : (o.take x ++ sm ((o.drop x).take y.length) y).length = x + y.length := by rw [List.length_append, l1, l2]
  have l4 : (o.drop (x + y.length)).length = o.length - (x + y.length) := by simp
  generalize rws encT (ws.set p (B (o.take x ++ sm ((o.drop x).take y.length) y ++ o.drop (x + y.length)))) = R' at *
  generalize rws encT ws = R at *
  generalize o.take x ++ sm ((o.drop x).take y.length) y = T1 at *
  generalize T1 ++ o.drop (x + y.length) = T2 at *
  generalize o.drop (x + y.length) = T3 at *
  generalize sm ((o.drop x).take y.length) y = T4 at *
  generalize (o.drop x).take y.length = T5 at *
  generalize o.take x = T6 at *
  generalize hxy : x + y.length = xy at *
  have d1 : x ≤ xy := by omega
  have d2 : x ≤ o.length := by omega
  have g1 : ¬ (9223372036854775807 : Int) < (T6.length : Int) + T4.length := by omega
  have g2 : ¬ (9223372036854775807 : Int) < (T1.length : Int) + T3.length := by omega
  simp [F119, hrl, hp, hg, w1, hk, evalW, source, hall, e1, e2, e3, rcall146, s1, a1, a2, hset, hk2, hx, d1, d2, g1, g2]
  exact ⟨hall, by omega, by omega⟩
end Go.Ae.C3
namespace Go.Ae.C3
set_option linter.unusedSimpArgs false
set_option linter.unusedVariables false
/-- A byte of a column. -/
def byC (ws : List ByteArray) (c i : Nat) : Nat := byt (ws.getD c ByteArray.empty).data.toList i
/-- What a delta adds to a byte. -/
def dvl (d : GDelta) (c i : Nat) : Nat := if d.Pos = c ∧ d.At ≤ i then byt d.Bytes.data.toList (i - d.At.toNat) else 0
def sumD (c i : Nat) : List GDelta → Nat
  | [] => 0
  | d :: L => dvl d c i ^^^ sumD c i L
/-- The object with a delta added. -/
def tkD (C : List ByteArray) (d : GDelta) : List ByteArray := C.set d.Pos.toNat (B (putS (C.getD d.Pos.toNat ByteArray.empty).data.toList d.At.toNat d.Bytes.data.toList))
structure OkD (w tall : Nat) (d : GDelta) : Prop where
  p0 : 0 ≤ d.Pos
  p1 : d.Pos < w
  a0 : 0 ≤ d.At
  a1 : d.At.toNat + d.Bytes.size ≤ tall
structure Cls (w tall : Nat) (ws : List ByteArray) : Prop where
  len : ws.length = w
  all : ∀ s ∈ ws, s.size = tall
theorem byt_out {l : List UInt8} {t : Nat} (h : l.length ≤ t) : byt l t = 0 := by
  simp [byt, List.getD_eq_getElem?_getD, List.getElem?_eq_none h]
theorem byt_take {l : List UInt8} {n t : Nat} : byt (l.take n) t = if t < n then byt l t else 0 := by
  by_cases h : t < n
  · rw [if_pos h]; simp [byt, List.getD_eq_getElem?_getD, List.getElem?_take, h]
  · rw [if_neg h]; exact byt_out (by simp; omega)
theorem byt_drop {l : List UInt8} {n t : Nat} : byt (l.drop n) t = byt l (n + t) := by
  simp [byt, List.getD_eq_getElem?_getD, List.getElem?_drop]
theorem byt_app {l r : List UInt8} {t : Nat} : byt (l ++ r) t = if t < l.length then byt l t else byt r (t - l.length) := by
  by_cases h : t < l.length
  · rw [if_pos h]; simp [byt, List.getD_eq_getElem?_getD, List.getElem?_append_left h]
  · rw [if_neg h]; simp [byt, List.getD_eq_getElem?_getD, List.getElem?_append_right (Nat.le_of_not_lt h)]
theorem putS_byt {o y : List UInt8} {x i : Nat} (h : x + y.length ≤ o.length) : byt (putS o x y) i = byt o i ^^^ (if x ≤ i then byt y (i - x) else 0) := by
  have hm : ((o.drop x).take y.length).length = y.length := by simp; omega
  have hs : (sm ((o.drop x).take y.length) y).length = y.length := by rw [sm_len hm]; exact hm
  have ht : (o.take x).length = x := by simp; omega
  unfold putS
  rw [byt_app, List.length_append, ht, hs, byt_app, ht, byt_take, byt_drop]
  by_cases h1 : x ≤ i
  · rw [if_pos h1]
    by_cases h2 : i < x + y.length
    · rw [if_pos h2, if_neg (by omega), sm_byt hm (by omega), byt_take, byt_drop, if_pos (by omega), show x + (i - x) = i by omega]
    · rw [if_neg h2, byt_out (l := y) (by omega), Nat.xor_zero]
      congr 1; omega
  · rw [if_neg h1, if_pos (by omega), if_pos (by omega), if_pos (by omega), Nat.xor_zero]
theorem bdl {s : ByteArray} : s.data.toList.length = s.size := Array.length_toList
theorem getD_mem {ws : List ByteArray} {c : Nat} (h : c < ws.length) : ws.getD c ByteArray.empty = ws[c] := by
  rw [List.getD_eq_getElem?_getD, List.getElem?_eq_getElem h]; rfl
theorem Cls.tk {w tall : Nat} {ws : List ByteArray} (h : Cls w tall ws) {d : GDelta} (hd : OkD w tall d) : Cls w tall (tkD ws d) where
  len := by rw [tkD, List.length_set]; exact h.len
  all := fun s hs => by
    have hp := hd.p1
    have hp0 := hd.p0
    have hl := h.len
    have ha := hd.a1
    rcases List.mem_or_eq_of_mem_set hs with h1 | h1
    · exact h.all s h1
    · have hc : d.Pos.toNat < ws.length := by omega
      have hz := h.all _ (List.getElem_mem hc)
      have hq : ws[d.Pos.toNat].data.toList.length = tall := by rw [bdl]; exact hz
      have hb : d.Bytes.data.toList.length = d.Bytes.size := bdl
      rw [h1, bsz, getD_mem hc, putS_len (by omega)]
      exact hq
theorem tkD_byC {w tall : Nat} {ws : List ByteArray} (h : Cls w tall ws) {d : GDelta} (hd : OkD w tall d) (c i : Nat) : byC (tkD ws d) c i = byC ws c i ^^^ dvl d c i := by
  have hp := hd.p1
  have hp0 := hd.p0
  have hl := h.len
  have ha := hd.a1
  have ha0 := hd.a0
  have hc : d.Pos.toNat < ws.length := by omega
  have hz := h.all _ (List.getElem_mem hc)
  have hq : ws[d.Pos.toNat].data.toList.length = tall := by rw [bdl]; exact hz
  have hb : d.Bytes.data.toList.length = d.Bytes.size := bdl
  unfold byC dvl tkD
  by_cases h1 : d.Pos = c
  · have h1' : d.Pos.toNat = c := by omega
    have e : (ws.set d.Pos.toNat (B (putS (ws.getD d.Pos.toNat ByteArray.empty).data.toList d.At.toNat d.Bytes.data.toList))).getD c ByteArray.empty = B (putS (ws.getD d.Pos.toNat ByteArray.empty).data.toList d.At.toNat d.Bytes.data.toList) := by
      rw [← h1', List.getD_eq_getElem?_getD, List.getElem?_set_self hc]; rfl
    rw [e, Blist, putS_byt (by rw [getD_mem hc]; omega), h1']
    congr 1
    by_cases h2 : d.At.toNat ≤ i
    · rw [if_pos h2, if_pos ⟨h1, by omega⟩]
    · rw [if_neg h2, if_neg (by omega)]
  · have h1' : d.Pos.toNat ≠ c := by omega
    rw [List.getD_eq_getElem?_getD, List.getElem?_set_ne h1', ← List.getD_eq_getElem?_getD, if_neg (fun h => h1 h.1), Nat.xor_zero]
theorem Cls.fold {w tall : Nat} : ∀ (L : List GDelta) {ws : List ByteArray}, Cls w tall ws → (∀ d ∈ L, OkD w tall d) → Cls w tall (L.foldl tkD ws)
  | [], ws, h, _ => h
  | d :: L, ws, h, hd => Cls.fold L (h.tk (hd d List.mem_cons_self)) fun x hx => hd x (List.mem_cons_of_mem _ hx)
theorem fold_byC {w tall : Nat} (c i : Nat) : ∀ (L : List GDelta) {ws : List ByteArray}, Cls w tall ws → (∀ d ∈ L, OkD w tall d) → byC (L.foldl tkD ws) c i = byC ws c i ^^^ sumD c i L
  | [], ws, h, _ => by simp [sumD]
  | d :: L, ws, h, hd => by
    rw [List.foldl_cons, fold_byC c i L (h.tk (hd d List.mem_cons_self)) fun x hx => hd x (List.mem_cons_of_mem _ hx), tkD_byC h (hd d List.mem_cons_self), sumD, Nat.xor_assoc]
theorem sumD_app (c i : Nat) : ∀ (L R : List GDelta), sumD c i (L ++ R) = sumD c i L ^^^ sumD c i R
  | [], R => by simp [sumD]
  | d :: L, R => by rw [List.cons_append, sumD, sumD, sumD_app c i L R, Nat.xor_assoc]
theorem sumD_rev (c i : Nat) : ∀ (L : List GDelta), sumD c i L.reverse = sumD c i L
  | [] => rfl
  | d :: L => by rw [List.reverse_cons, sumD_app, sumD_rev c i L, sumD, sumD, sumD, Nat.xor_zero, Nat.xor_comm]
theorem cls_ext {w tall : Nat} {ws vs : List ByteArray} (h : Cls w tall ws) (h' : Cls w tall vs) (hb : ∀ c i, c < w → i < tall → byC ws c i = byC vs c i) : ws = vs := by
  have l1 := h.len
  have l2 := h'.len
  apply List.ext_getElem (by omega)
  intro c h1 h2
  have z1 := h.all _ (List.getElem_mem h1)
  have z2 := h'.all _ (List.getElem_mem h2)
  have e : ws[c].data.toList = vs[c].data.toList := by
    refine byt_ext (by rw [bdl, bdl, z1, z2]) fun i hi => ?_
    rw [bdl, z1] at hi
    have := hb c i (by omega) hi
    unfold byC at this
    rw [getD_mem h1, getD_mem h2] at this
    exact this
  rw [← B_eta ws[c], ← B_eta vs[c], e]
theorem dot_xor {r x y : Nat → Nat} : ∀ n, (∀ j, j < n → r j < 256) → (∀ j, j < n → x j < 256) → (∀ j, j < n → y j < 256) → dot r (fun j => x j ^^^ y j) n = dot r x n ^^^ dot r y n
  | 0, _, _, _ => by simp [dot]
  | n + 1, h, hx, hy => by
    rw [dot, dot, dot, dot_xor n (fun j hj => h j (by omega)) (fun j hj => hx j (by omega)) (fun j hj => hy j (by omega)), gm_xor' (h n (by omega)) (hx n (by omega)) (hy n (by omega)), x4]
end Go.Ae.C3
namespace Go.Ae.C3
set_option linter.unusedSimpArgs false
set_option linter.unusedVariables false
/-- The columns after the first deltas. -/
def colJ (ws : List ByteArray) (L : List GDelta) (j : Nat) : List ByteArray := (L.take j).foldl tkD ws
theorem colJ_succ {ws : List ByteArray} {L : List GDelta} {j : Nat} (h : j < L.length) : colJ ws L (j + 1) = tkD (colJ ws L j) L[j] := by
  unfold colJ
  rw [List.take_add_one, List.getElem?_eq_getElem h, Option.toList_some, List.foldl_append]
  rfl
theorem colJ_cls {w tall : Nat} {ws : List ByteArray} {L : List GDelta} (h : Cls w tall ws) (hd : ∀ d ∈ L, OkD w tall d) (j : Nat) : Cls w tall (colJ ws L j) := h.fold _ fun d hx => hd d (List.mem_of_mem_take hx)
theorem GDelta.of_ok {w tall : Nat} {d : GDelta} (h : OkD w tall d) : GDelta.enc d = [.int .i64 (d.Pos.toNat : Nat), .int .i64 (d.At.toNat : Nat), .str (B d.Bytes.data.toList)] := by
  have := h.p0
  have := h.a0
  unfold GDelta.enc
  rw [B_eta, Int.toNat_of_nonneg h.p0, Int.toNat_of_nonneg h.a0]
theorem takes {w tall : Nat} {C : List ByteArray} {d : GDelta} (hC : Cls w tall C) (h : OkD w tall d) (hw : w ≤ 1000) (ht : tall ≤ 1000) (k a b u n : Nat) :
    call code (k + 2) 121 [wAV a b u n (rws encT C), .agg (GDelta.enc d)] [] = some (resW1 a b u n (tkD C d)) ∧ call code (k + 2) 119 [wAV a b u n (rws encT C), .agg (GDelta.enc d)] [] = some (resW1 a b u n (tkD C d)) := by
  have hl := hC.len
  have hp := h.p1
  have hp0 := h.p0
  have hc : d.Pos.toNat < C.length := by omega
  have hz := hC.all _ (List.getElem_mem hc)
  have hq : C[d.Pos.toNat].data.toList.length = tall := by rw [bdl]; exact hz
  have hb : d.Bytes.data.toList.length = d.Bytes.size := bdl
  have ha := h.a1
  rw [GDelta.of_ok h]
  unfold tkD
  rw [getD_mem hc]
  exact ⟨take1 k a b u n C (by omega) _ _ hc _ _ (B_eta _).symm (by omega) (by omega), l05Take k a b u n C (by omega) _ _ hc _ _ (B_eta _).symm (by omega) (by omega)⟩
end Go.Ae.C3
namespace Go.Ae.C3
set_option linter.unusedSimpArgs false
set_option linter.unusedVariables false
/-- A cell of the data's columns: what the change adds. -/
def eD (a u : Nat) (ws : List ByteArray) (t : List UInt8) (f c i : Nat) : Nat := if f ≤ posN a u c i ∧ posN a u c i < f + t.length then byt t (posN a u c i - f) ^^^ byC ws c i else 0
def eA (a b u : Nat) (ws : List ByteArray) (t : List UInt8) (f c i : Nat) : Nat := if c < a then eD a u ws t f c i else dot (fun j => (gN a b).getD (c * a + j) 0) (fun j => eD a u ws t f j i) a
theorem q_pos {a u c i : Nat} (hu : 1 ≤ u) : qN a u (i / u) c + i % u = posN a u c i := by
  unfold qN posN
  rw [Nat.add_mul, Nat.mul_assoc]
theorem eD_lt (a u ws t f c i) : eD a u ws t f c i < 256 := by
  unfold eD
  split
  · exact xlt (byt_lt _ _) (byt_lt _ _)
  · omega
theorem rowI_byt {a u s c f i : Nat} {ws : List ByteArray} {t : List UInt8} (hu : 1 ≤ u) (hi : i / u = s) : byt (rowI ws t f u s c (qN a u s c) u) (i % u) = eD a u ws t f c i := by
  subst hi
  have hlt : i % u < u := Nat.mod_lt _ (by omega)
  have hp := q_pos (a := a) (c := c) (i := i) hu
  have hd : i / u * u + i % u = i := by rw [Nat.mul_comm]; exact Nat.div_add_mod i u
  unfold rowI eD touN loN hiN
  simp only [byt, List.getD_eq_getElem?_getD, List.getElem?_map, List.getElem?_range hlt, Option.map_some, Option.getD_some]
  rw [← hp]
  by_cases h : f ≤ qN a u (i / u) c + i % u ∧ qN a u (i / u) c + i % u < f + t.length
  · rw [if_pos h, if_pos (by simp; omega)]
    unfold valN byC
    rw [UInt8.toNat_xor, hd]
    rfl
  · rw [if_neg h, if_neg (by simp; omega)]; rfl
theorem div_of {u s i : Nat} (hu : 1 ≤ u) (h1 : s * u ≤ i) (h2 : i < s * u + u) : i / u = s ∧ i % u = i - s * u := by
  have e : i = u * s + (i - s * u) := by rw [Nat.mul_comm]; omega
  constructor
  · rw [e, Nat.mul_add_div (by omega), Nat.div_eq_of_lt (by omega)]; omega
  · rw [e, Nat.mul_add_mod, Nat.mod_eq_of_lt (by omega)]; omega
theorem of_div {u s i : Nat} (hu : 1 ≤ u) (h : i / u = s) : s * u ≤ i ∧ i < s * u + u := by
  subst h
  have h1 : i / u * u + i % u = i := by rw [Nat.mul_comm]; exact Nat.div_add_mod i u
  have h2 : i % u < u := Nat.mod_lt _ (by omega)
  omega
theorem dlC_sum {a u s f : Nat} {ws : List ByteArray} {t : List UInt8} (hu : 1 ≤ u) (c' c i : Nat) : sumD c i (dlC a u ws t f s c') = if c = c' ∧ i / u = s then eD a u ws t f c i else 0 := by
  have hlu : loN u f (qN a u s c') ≤ u := Nat.min_le_left _ _
  have hhu : hiN u f t.length (qN a u s c') ≤ u := Nat.min_le_left _ _
  have key : c = c' → i / u = s → byt (rowI ws t f u s c' (qN a u s c') u) (i % u) = eD a u ws t f c i := fun h1 h2 => by rw [h1]; exact rowI_byt hu h2
  have hz : c = c' → i / u = s → ¬ (loN u f (qN a u s c') ≤ i % u ∧ i % u < hiN u f t.length (qN a u s c')) → eD a u ws t f c i = 0 := fun h1 h2 h3 => by
    rw [← key h1 h2]
    have hlt : i % u < u := Nat.mod_lt _ (by omega)
    unfold rowI
    simp only [byt, List.getD_eq_getElem?_getD, List.getElem?_map, List.getElem?_range hlt, Option.map_some, Option.getD_some]
    rw [if_neg (by unfold touN; simp; omega)]; rfl
  unfold dlC
  by_cases hlh : loN u f (qN a u s c') < hiN u f t.length (qN a u s c')
  · rw [if_pos hlh]
    simp only [sumD, Nat.xor_zero, dvl, Blist, tb_cut]
    by_cases h1 : c = c'
    · subst h1
      by_cases h2 : i / u = s
      · refine Eq.trans ?_ (if_pos ⟨rfl, h2⟩).symm
        obtain ⟨g1, g2⟩ := of_div hu h2
        obtain ⟨_, g3⟩ := div_of hu g1 g2
        by_cases h3 : s * u + loN u f (qN a u s c) ≤ i
        · rw [if_pos ⟨rfl, by omega⟩, Int.toNat_natCast, byt_take, byt_drop]
          by_cases h4 : i % u < hiN u f t.length (qN a u s c)
          · rw [if_pos (by omega), ← key rfl h2]; congr 1; omega
          · rw [if_neg (by omega), hz rfl h2 (by omega)]
        · rw [if_neg (by omega), hz rfl h2 (by omega)]
      · refine Eq.trans ?_ (if_neg (fun h => h2 h.2)).symm
        by_cases h3 : s * u + loN u f (qN a u s c) ≤ i
        · rw [if_pos ⟨rfl, by omega⟩, Int.toNat_natCast, byt_take]
          by_cases h4 : i < s * u + u
          · exact absurd (div_of hu (by omega) h4).1 h2
          · rw [if_neg (by omega)]
        · rw [if_neg (by omega)]
    · refine Eq.trans ?_ (if_neg (fun h => h1 h.1)).symm
      rw [if_neg (by omega)]
  · rw [if_neg hlh]
    by_cases h1 : c = c' ∧ i / u = s
    · rw [if_pos h1, hz h1.1 h1.2 (by omega)]; rfl
    · rw [if_neg h1]; rfl
theorem dlI_sum {a u s f : Nat} {ws : List ByteArray} {t : List UInt8} (hu : 1 ≤ u) (c i : Nat) : ∀ n, sumD c i (dlI a u ws t f s n) = if c < n ∧ i / u = s then eD a u ws t f c i else 0
  | 0 => by simp [dlI, sumD]
  | n + 1 => by
    rw [dlI, sumD_app, dlI_sum hu c i n, dlC_sum hu n c i]
    by_cases h1 : c = n
    · rw [if_neg (by omega), Nat.zero_xor]
      by_cases h2 : i / u = s
      · rw [if_pos ⟨h1, h2⟩, if_pos ⟨by omega, h2⟩]
      · rw [if_neg (fun h => h2 h.2), if_neg (fun h => h2 h.2)]
    · rw [if_neg (c := c = n ∧ _) (fun h => h1 h.1), Nat.xor_zero]
      by_cases h2 : i / u = s
      · by_cases h3 : c < n
        · rw [if_pos ⟨h3, h2⟩, if_pos ⟨by omega, h2⟩]
        · rw [if_neg (by omega), if_neg (by omega)]
      · rw [if_neg (fun h => h2 h.2), if_neg (fun h => h2 h.2)]
theorem parI_sum {a u s : Nat} {P : List (List UInt8)} (hu : 1 ≤ u) (hP : ∀ c, (P.getD c []).length ≤ u) (c i : Nat) : ∀ n, sumD c i (parI a (s * u) P n) = if a ≤ c ∧ c < a + n ∧ i / u = s then byt (P.getD c []) (i % u) else 0
  | 0 => by rw [if_neg (by omega)]; rfl
  | n + 1 => by
    rw [parI_succ, sumD_app, parI_sum hu hP c i n]
    simp only [sumD, Nat.xor_zero, dvl, Blist, Int.toNat_natCast]
    by_cases h1 : c = a + n
    · subst h1
      rw [if_neg (by omega), Nat.zero_xor]
      by_cases h2 : i / u = s
      · obtain ⟨g1, g2⟩ := of_div hu h2
        obtain ⟨_, g3⟩ := div_of hu g1 g2
        rw [if_pos ⟨rfl, by omega⟩, if_pos ⟨by omega, by omega, h2⟩, g3]
      · refine Eq.trans ?_ (if_neg (fun h => h2 h.2.2)).symm
        by_cases h3 : s * u ≤ i
        · rw [if_pos ⟨rfl, by omega⟩]
          refine byt_out (Nat.le_trans (hP _) ?_)
          by_cases h4 : i < s * u + u
          · exact absurd (div_of hu (by omega) h4).1 h2
          · omega
        · rw [if_neg (by omega)]
    · rw [if_neg (c := _ = _ ∧ _) (by omega), Nat.xor_zero]
      by_cases h2 : a ≤ c ∧ c < a + n ∧ i / u = s
      · rw [if_pos h2, if_pos ⟨h2.1, by omega, h2.2.2⟩]
      · rw [if_neg h2, if_neg (by omega)]
theorem rwL_all (a u ws t f s n) : ∀ x ∈ rwL a u ws t f s n, x.length = u := fun x hx => by
  simp only [rwL, List.mem_map] at hx
  obtain ⟨j, _, rfl⟩ := hx
  exact rowI_len ..
theorem dlS_sum {a b u s f : Nat} {ws : List ByteArray} {t : List UInt8} (ha : 1 ≤ a ∧ a ≤ 4) (hb : b ≤ 3) (hu : 1 ≤ u) (c i : Nat) (hc : c < a + b) : sumD c i (dlS a b u ws t f s) = if i / u = s then eA a b u ws t f c i else 0 := by
  have hP : ∀ c, ((pcs (gN a b) (a + b) a (rwL a u ws t f s a) u).getD c []).length ≤ u := fun c => by
    by_cases h : c < a + b
    · rw [pcs_get h, acc_len (rwL_all a u ws t f s a) a (by rw [rwL_len]; exact Nat.le_refl _)]; exact Nat.le_refl _
    · rw [List.getD_eq_getElem?_getD, List.getElem?_eq_none (by rw [pcs_len]; omega)]; simp
  rw [dlS, sumD_app, dlI_sum hu, parI_sum hu hP]
  unfold eA
  by_cases h2 : i / u = s
  · rw [if_pos h2]
    by_cases h1 : c < a
    · rw [if_pos ⟨h1, h2⟩, if_neg (by omega), if_pos h1, Nat.xor_zero]
    · rw [if_neg (fun h => h1 h.1), if_pos ⟨by omega, hc, h2⟩, if_neg h1, Nat.zero_xor, pcs_get hc, acc_byt (rwL_all a u ws t f s a) (gN_lt (by omega)) (Nat.mod_lt _ (by omega)) a (by rw [rwL_len]; exact Nat.le_refl _)]
      refine dot_congr a (fun _ _ => rfl) fun j hj => ?_
      have : (rwL a u ws t f s a).getD j [] = rowI ws t f u s j (qN a u s j) u := by simp [rwL, List.getD_eq_getElem?_getD, hj]
      rw [this, rowI_byt hu h2]
  · rw [if_neg h2, if_neg (fun h => h2 h.2), if_neg (fun h => h2 h.2.2)]; rfl
theorem dsI_sum {a b u s0 f : Nat} {ws : List ByteArray} {t : List UInt8} (ha : 1 ≤ a ∧ a ≤ 4) (hb : b ≤ 3) (hu : 1 ≤ u) (c i : Nat) (hc : c < a + b) : ∀ j, sumD c i (dsI a b u ws t f s0 j) = if s0 ≤ i / u ∧ i / u < s0 + j then eA a b u ws t f c i else 0
  | 0 => by rw [if_neg (by omega)]; rfl
  | j + 1 => by
    rw [dsI, sumD_app, dsI_sum ha hb hu c i hc j, dlS_sum ha hb hu c i hc]
    by_cases h1 : i / u = s0 + j
    · rw [if_neg (by omega), if_pos h1, if_pos (by omega), Nat.zero_xor]
    · rw [if_neg h1, Nat.xor_zero]
      by_cases h2 : s0 ≤ i / u ∧ i / u < s0 + j
      · rw [if_pos h2, if_pos (by omega)]
      · rw [if_neg h2, if_neg (by omega)]
theorem pos_div {a u c i : Nat} (hc : c < a) (hu : 1 ≤ u) : posN a u c i / (a * u) = i / u := by
  have hlt : i % u < u := Nat.mod_lt _ (by omega)
  have hr : c * u + i % u < a * u := by
    have : (c + 1) * u ≤ a * u := Nat.mul_le_mul_right u hc
    rw [Nat.add_mul, Nat.one_mul] at this
    omega
  unfold posN
  rw [Nat.add_assoc, Nat.mul_comm (i / u), Nat.mul_add_div (by omega), Nat.div_eq_of_lt hr, Nat.add_zero]
theorem eD_out {a u f c i : Nat} {ws : List ByteArray} {t : List UInt8} (hc : c < a) (hu : 1 ≤ u) (h : ¬ (f / (a * u) ≤ i / u ∧ i / u < f / (a * u) + nsN a u f t.length)) : eD a u ws t f c i = 0 := by
  unfold eD
  rw [if_neg]
  intro h2
  apply h
  have e := pos_div (i := i) hc hu
  have hS : 0 < a * u := Nat.mul_pos (by omega) (by omega)
  unfold nsN
  rw [if_neg (by omega), ← e]
  have g1 : f / (a * u) ≤ posN a u c i / (a * u) := Nat.div_le_div_right h2.1
  have g2 : posN a u c i / (a * u) ≤ (f + t.length - 1) / (a * u) := Nat.div_le_div_right (by omega)
  generalize f / (a * u) = x at *
  generalize posN a u c i / (a * u) = y at *
  generalize (f + t.length - 1) / (a * u) = z at *
  omega
theorem dAll_sum {a b u f : Nat} {ws : List ByteArray} {t : List UInt8} (ha : 1 ≤ a ∧ a ≤ 4) (hb : b ≤ 3) (hu : 1 ≤ u) (c i : Nat) (hc : c < a + b) : sumD c i (dAll a b u ws t f) = eA a b u ws t f c i := by
  unfold dAll
  rw [dsI_sum ha hb hu c i hc]
  by_cases h : f / (a * u) ≤ i / u ∧ i / u < f / (a * u) + nsN a u f t.length
  · rw [if_pos h]
  · rw [if_neg h]
    unfold eA
    by_cases h1 : c < a
    · rw [if_pos h1, eD_out h1 hu h]
    · rw [if_neg h1, dot_congr (x' := fun _ => 0) a (fun _ _ => rfl) (fun j hj => eD_out hj hu h), dot_zero]
end Go.Ae.C3
namespace Go.Ae.C3
set_option linter.unusedSimpArgs false
set_option linter.unusedVariables false
theorem dlI_mem {a u s f : Nat} {ws : List ByteArray} {t : List UInt8} {d : GDelta} : ∀ n, d ∈ dlI a u ws t f s n → ∃ c, c < n ∧ d ∈ dlC a u ws t f s c
  | 0, h => by simp [dlI] at h
  | n + 1, h => by
    rw [dlI, List.mem_append] at h
    rcases h with h | h
    · obtain ⟨c, h1, h2⟩ := dlI_mem n h
      exact ⟨c, by omega, h2⟩
    · exact ⟨n, by omega, h⟩
theorem dsI_mem {a b u s0 f : Nat} {ws : List ByteArray} {t : List UInt8} {d : GDelta} : ∀ n, d ∈ dsI a b u ws t f s0 n → ∃ s, s0 ≤ s ∧ s < s0 + n ∧ d ∈ dlS a b u ws t f s
  | 0, h => by simp [dsI] at h
  | n + 1, h => by
    rw [dsI, List.mem_append] at h
    rcases h with h | h
    · obtain ⟨s, h1, h2, h3⟩ := dsI_mem n h
      exact ⟨s, h1, by omega, h3⟩
    · exact ⟨s0 + n, by omega, by omega, h⟩
theorem tall_s {a u n s : Nat} (hS : 0 < a * u) (h : s * (a * u) < n) : (s + 1) * u ≤ tallN a u n := by
  unfold tallN
  refine Nat.mul_le_mul_right u ?_
  rw [Nat.le_div_iff_mul_le hS, Nat.add_mul, Nat.one_mul]
  omega
theorem dlS_ok {a b u n s f : Nat} {ws : List ByteArray} {t : List UInt8} (h : Wide a b u n ws) (hfm : f + t.length ≤ n) (hs : s * (a * u) < n) : ∀ d ∈ dlS a b u ws t f s, OkD (a + b) (tallN a u n) d := fun d hd => by
  have hu := h.u1
  have ha := h.a1
  have hS : 0 < a * u := Nat.mul_pos (by omega) (by omega)
  rw [dlS, List.mem_append] at hd
  rcases hd with hd | hd
  · obtain ⟨c, hc, hd⟩ := dlI_mem a hd
    unfold dlC at hd
    by_cases hlh : loN u f (qN a u s c) < hiN u f t.length (qN a u s c)
    · rw [if_pos hlh, List.mem_singleton] at hd
      subst hd
      have hhu : hiN u f t.length (qN a u s c) ≤ u := Nat.min_le_left _ _
      have ht : touN u f t.length (qN a u s c) (hiN u f t.length (qN a u s c) - 1) = true := by unfold touN; simp; omega
      have := (tou_cell h.cols hc (by omega) hfm ht).2.2
      have hl : (tbI ws t f u s c (qN a u s c) u).length = hiN u f t.length (qN a u s c) - loN u f (qN a u s c) := by
        rw [tb_cut, List.length_take, List.length_drop, rowI_len]; omega
      exact ⟨Int.natCast_nonneg _, by simp; omega, Int.natCast_nonneg _, by simp only [Int.toNat_natCast, bsz, hl]; omega⟩
    · rw [if_neg hlh] at hd; cases hd
  · simp only [parI, List.mem_map, List.mem_range] at hd
    obtain ⟨j, hj, rfl⟩ := hd
    have h1 := tall_s hS hs
    rw [Nat.add_mul, Nat.one_mul] at h1
    have h2 : ((pcs (gN a b) (a + b) a (rwL a u ws t f s a) u).getD (a + j) []).length = u := by
      rw [pcs_get (by omega), acc_len (rwL_all a u ws t f s a) a (by rw [rwL_len]; exact Nat.le_refl _)]
    exact ⟨Int.natCast_nonneg _, by simp; omega, Int.natCast_nonneg _, by simp only [Int.toNat_natCast, bsz, h2]; omega⟩
theorem dAll_ok {a b u n f : Nat} {ws : List ByteArray} {t : List UInt8} (h : Wide a b u n ws) (hfm : f + t.length ≤ n) : ∀ d ∈ dAll a b u ws t f, OkD (a + b) (tallN a u n) d := fun d hd => by
  have hu := h.u1
  have ha := h.a1
  have hS : 0 < a * u := Nat.mul_pos (by omega) (by omega)
  unfold dAll at hd
  obtain ⟨s, h1, h2, h3⟩ := dsI_mem _ hd
  refine dlS_ok h hfm ?_ d h3
  unfold nsN at h2
  by_cases hm : t.length = 0
  · rw [if_pos hm] at h2; omega
  rw [if_neg hm] at h2
  have h5 : f / (a * u) ≤ (f + t.length - 1) / (a * u) := Nat.div_le_div_right (by omega)
  have h4 : s ≤ (f + t.length - 1) / (a * u) := by
    generalize (f + t.length - 1) / (a * u) = y at *
    generalize f / (a * u) = x at *
    omega
  rw [Nat.le_div_iff_mul_le hS] at h4
  omega
theorem Wide.cls {a b u n : Nat} {ws : List ByteArray} (h : Wide a b u n ws) : Cls (a + b) (tallN a u n) ws := ⟨h.len, h.all⟩
theorem wid_getD {a b u : Nat} {l : List UInt8} {c : Nat} (hc : c < a + b) : ((wid a b u l).map B).getD c ByteArray.empty = B ((wid a b u l).getD c []) := by
  have := wid_len a b u l
  rw [List.getD_eq_getElem?_getD, List.getD_eq_getElem?_getD, List.getElem?_map, List.getElem?_eq_getElem (by omega)]
  rfl
theorem wid_top_byC {a b u : Nat} {l : List UInt8} {c i : Nat} (ha : 1 ≤ a ∧ a ≤ 4) (hb : b ≤ 3) (hc : c < a) (hi : i < tallN a u l.length) : byC ((wid a b u l).map B) c i = byt l (posN a u c i) := by
  unfold byC
  rw [wid_getD (by omega), Blist, wid_top ha hb hc]
  unfold dW dWi
  simp only [byt, List.getD_eq_getElem?_getD, List.getElem?_map, List.getElem?_range hi, Option.map_some, Option.getD_some]
theorem wid_low_byC {a b u : Nat} {l : List UInt8} {c i : Nat} (ha : 1 ≤ a ∧ a ≤ 4) (hb : b ≤ 3) (hc : c < a + b) (hi : i < tallN a u l.length) : byC ((wid a b u l).map B) c i = dot (fun j => (gN a b).getD (c * a + j) 0) (fun j => byt l (posN a u j i)) a := by
  unfold byC
  rw [wid_getD hc, Blist]
  unfold wid
  rw [pcs_get hc, acc_byt (dWs_all a u l a) (gN_lt (by omega)) hi a (by rw [dWs_len]; exact Nat.le_refl _)]
  refine dot_congr a (fun _ _ => rfl) fun j hj => ?_
  rw [dWs_at hj]
  unfold dW dWi
  simp only [byt, List.getD_eq_getElem?_getD, List.getElem?_map, List.getElem?_range hi, Option.map_some, Option.getD_some]
/-- The body with a part written over. -/
def over (l : List UInt8) (f : Nat) (t : List UInt8) : List UInt8 := l.take f ++ t ++ l.drop (f + t.length)
theorem over_len {l : List UInt8} {f : Nat} {t : List UInt8} (h : f + t.length ≤ l.length) : (over l f t).length = l.length := by
  simp only [over, List.length_append, List.length_take, List.length_drop]; omega
theorem over_byt {l : List UInt8} {f : Nat} {t : List UInt8} (h : f + t.length ≤ l.length) (p : Nat) : byt (over l f t) p = byt l p ^^^ (if f ≤ p ∧ p < f + t.length then byt t (p - f) ^^^ byt l p else 0) := by
  have ht : (l.take f).length = f := by simp; omega
  unfold over
  rw [byt_app, List.length_append, ht, byt_app, ht, byt_take, byt_drop]
  by_cases h1 : f ≤ p
  · by_cases h2 : p < f + t.length
    · rw [if_pos h2, if_neg (by omega), if_pos ⟨h1, h2⟩, Nat.xor_comm (byt t (p - f)), ← Nat.xor_assoc, Nat.xor_self, Nat.zero_xor]
    · rw [if_neg h2, if_neg (by omega), Nat.xor_zero]; congr 1; omega
  · rw [if_pos (by omega), if_pos (by omega), if_pos (by omega), if_neg (by omega), Nat.xor_zero]
theorem eD_wid {a b u f c i : Nat} {l t : List UInt8} (ha : 1 ≤ a ∧ a ≤ 4) (hb : b ≤ 3) (hc : c < a) (hi : i < tallN a u l.length) (h : f + t.length ≤ l.length) : byt l (posN a u c i) ^^^ eD a u ((wid a b u l).map B) t f c i = byt (over l f t) (posN a u c i) := by
  rw [over_byt h]
  unfold eD
  rw [wid_top_byC ha hb hc hi]
theorem delta_byC {a b u f c i : Nat} {l t : List UInt8} (ha : 1 ≤ a ∧ a ≤ 4) (hb : b ≤ 3) (hu : 1 ≤ u) (hc : c < a + b) (hi : i < tallN a u l.length) (h : f + t.length ≤ l.length) : byC ((wid a b u l).map B) c i ^^^ eA a b u ((wid a b u l).map B) t f c i = byC ((wid a b u (over l f t)).map B) c i := by
  have hl := over_len h
  unfold eA
  by_cases h1 : c < a
  · rw [if_pos h1, wid_top_byC ha hb h1 hi, eD_wid ha hb h1 hi h, wid_top_byC ha hb h1 (by rw [hl]; exact hi)]
  · rw [if_neg h1, wid_low_byC ha hb hc hi, wid_low_byC ha hb hc (by rw [hl]; exact hi), ← dot_xor a (fun j _ => getD_lt (gN_lt (by omega)) _) (fun j _ => byt_lt _ _) (fun j _ => eD_lt ..)]
    exact dot_congr a (fun _ _ => rfl) fun j hj => eD_wid ha hb hj hi h
theorem deltas_over {a b u f : Nat} {l t : List UInt8} (ha : 1 ≤ a ∧ a ≤ 4) (hb : b ≤ 3) (hu : 1 ≤ u ∧ u ≤ 8) (hl : l.length ≤ 256) (h : f + t.length ≤ l.length) {L : List GDelta} (hL : L = dAll a b u ((wid a b u l).map B) t f ∨ L = (dAll a b u ((wid a b u l).map B) t f).reverse) : L.foldl tkD ((wid a b u l).map B) = (wid a b u (over l f t)).map B := by
  have W := wide_wid (b := b) ha hb hu hl
  have W' := wide_wid (b := b) (u := u) (l := over l f t) ha hb hu (by rw [over_len h]; exact hl)
  have ok := dAll_ok W h
  have okL : ∀ d ∈ L, OkD (a + b) (tallN a u l.length) d := fun d hd => by
    rcases hL with rfl | rfl
    · exact ok d hd
    · exact ok d (List.mem_reverse.1 hd)
  have hs : ∀ c i, sumD c i L = sumD c i (dAll a b u ((wid a b u l).map B) t f) := fun c i => by
    rcases hL with rfl | rfl
    · rfl
    · exact sumD_rev ..
  have cl' := W'.cls
  rw [over_len h] at cl'
  refine cls_ext (W.cls.fold L okL) cl' fun c i hc hi => ?_
  rw [fold_byC c i L W.cls okL, hs, dAll_sum ha hb hu.1 c i hc, delta_byC ha hb hu.1 hc hi h]
end Go.Ae.C3
