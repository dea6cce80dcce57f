/- A store: sized, copied, compared, checked, crashed. -/
import Derived.Test.YtiabjkihebhfkaaGreatHDB
import Derived.Test.YtiabjkihebhfkaaGreatHDC
import Derived.Test.YtiabjkihebhfkaaGreatHDN
import Derived.Test.YtiabjkihebhfkaaGreatHCPF
namespace Go.Ae.GA.B
set_option linter.unusedSimpArgs false
set_option linter.unusedVariables false
set_option maxRecDepth 10000
abbrev stV (A B : List GSt) : AV := .agg [.rd false (rws GSt.enc A), .rd false (rws GSt.enc B)]
abbrev resST (A B : List GSt) : Res := ⟨.agg [.sl 0 0 0 [] 0 A.length, .sl 0 1 0 [] 0 B.length], [⟨0, 12, false, false, rws GSt.enco A⟩, ⟨0, 12, false, false, rws GSt.enco B⟩], []⟩
set_option maxHeartbeats 16000000 in
theorem toStore (k : Nat) (A B : List GSt) (h1 : A.length ≤ 1048576) (h2 : B.length ≤ 1048576) (f1 : ∀ x ∈ A, x.few) (f2 : ∀ x ∈ B, x.few) : call code (k + 6) 50 [stV A B] [] = some (resST A B) := by
  refine call_run rfl fn50 rfl ?_
  have q1 := fun k => toPgStateS k A h1 f1
  have q2 := fun k => toPgStateS k B h2 f2
  have l1 := rws_len (enc := GSt.enco) A
  have l2 := rws_len (enc := GSt.enco) B
  unfold stV resST
  generalize rws GSt.enco A = R1 at *
  generalize rws GSt.enco B = R2 at *
  simp [F50, rcall130, q1, q2, storeM, moveCells, moveCell, fillOk, AV.own0, AV.ownF, l1, l2]
set_option maxHeartbeats 16000000 in
theorem eqStore (k : Nat) (A B : List GSt) (h1 : A.length ≤ 1048576000) (h2 : B.length ≤ 1048576000) (f1 : ∀ x ∈ A, x.few) (f2 : ∀ x ∈ B, x.few) : call code (k + 6) 52 [stV A B, stV A B] [] = some ⟨.bool true, [], []⟩ := by
  refine call_run rfl fn52 rfl ?_
  have q1 := fun k => eqPgStateS k A h1 f1
  have q2 := fun k => eqPgStateS k B h2 f2
  simp [F52, rcall133, q1, q2]
set_option maxHeartbeats 16000000 in
theorem szStore (k : Nat) (l : Int) (A B : List GSt) (hl : 0 ≤ l ∧ l ≤ 1048576) (h1 : A.length ≤ 140737488351232) (h2 : B.length ≤ 140737488351232) (f1 : ∀ x ∈ A, x.ok) (f2 : ∀ x ∈ B, x.ok) : call code (k + 5) 48 [stV A B, .int .i64 l] [] = some ⟨.int .i64 (szV l ((A.length + wsum GSt.wt A) + (B.length + wsum GSt.wt B))), [], []⟩ := by
  refine call_run rfl fn48 rfl ?_
  have e0 := fun k => szPgStateS k l A hl h1 f1
  cases d0 : decide (szV l (A.length + wsum GSt.wt A) < 0)
  rotate_left
  · obtain ⟨a0, z0⟩ := szV_neg d0 (by omega)
    rw [z0] at e0
    have hr : szV l ((A.length + wsum GSt.wt A) + (B.length + wsum GSt.wt B)) = -1 := szV_gt (by omega)
    rw [hr]; simp [F48, rcall127, e0]
  obtain ⟨a0, z0⟩ := szV_pos d0 (by omega)
  rw [z0] at e0 d0
  have e1 := fun k => szPgStateS k (l - ((A.length + wsum GSt.wt A : Nat) : Int)) B ⟨by omega, by omega⟩ h2 f2
  try simp only [Int.natCast_add] at e0 d0 e1
  have hr : szV (l - ((A.length + wsum GSt.wt A : Nat) : Int)) (B.length + wsum GSt.wt B) = szV l ((A.length + wsum GSt.wt A) + (B.length + wsum GSt.wt B)) := szV_step a0
  try simp only [Int.natCast_add] at hr
  rw [hr] at e1
  cases d1 : decide (szV l ((A.length + wsum GSt.wt A) + (B.length + wsum GSt.wt B)) < 0)
  · simp [F48, rcall127, e0, d0, e1, d1]
  · obtain ⟨_, z⟩ := szV_neg d1 hl.1
    rw [z] at e1 ⊢
    simp [F48, rcall127, e0, d0, e1]
theorem storeOk (k : Nat) (A B : List GSt) (h1 : A.length ≤ 1048576) (h2 : B.length ≤ 1048576) (f1 : ∀ x ∈ A, x.small) (f2 : ∀ x ∈ B, x.small) : call code (k + 9) 131 [stV A B] [] = some ⟨.bool (stsB A && stsB B), [], []⟩ := by
  refine call_run rfl fn131 rfl ?_
  have q1 := fun k => statesOk k A h1 f1
  have q2 := fun k => statesOk k B h2 f2
  cases c1 : stsB A
  · rw [c1] at q1
    simp [F131, rcall205, q1]
  · rw [c1] at q1
    simp [F131, rcall205, q1, q2]
theorem storeOkS (k : Nat) (A B : List GSt) (h1 : A.length ≤ 1048576) (h2 : B.length ≤ 1048576) (f1 : ∀ x ∈ A, x.small) (f2 : ∀ x ∈ B, x.small) : call code (k + 9) 128 [stV A B] [] = some ⟨.bool (stsB A && stsB B), [], []⟩ := by
  refine call_run rfl fn128 rfl ?_
  have q1 := fun k => l18List k A h1 f1
  have q2 := fun k => l18List k B h2 f2
  cases c1 : stsB A
  · rw [c1] at q1
    simp [F128, rcall204, q1]
  · rw [c1] at q1
    simp [F128, rcall204, q1, q2]
set_option maxHeartbeats 16000000 in
theorem crashI (k : Nat) (A B : List GSt) (h2 : B.length ≤ 1048576) (f2 : ∀ x ∈ B, x.few) (g : Bool) (o1 : ∀ k, call code (k + 9) 131 [stV A B] [] = some ⟨.bool g, [], []⟩) : call code (k + 10) 51 [stV A B] [] = some (if g then resST B B else resST [] []) := by
  refine call_run rfl fn51 rfl ?_
  have q2 := fun k => cloneStates k B h2 f2
  have l2 := rws_len (enc := GSt.enco) B
  have n1 : rws GSt.enco [] = [] := rfl
  unfold stV resST at *
  rw [n1]
  generalize rws GSt.enco B = R2 at *
  cases g
  · simp [F51, rcall131, o1, storeM, moveCells, moveCell, fillOk, AV.own0, AV.ownF]
  · simp [F51, rcall131, rcall132, o1, q2, storeM, moveCells, moveCell, fillOk, AV.own0, AV.ownF, l2]
set_option maxHeartbeats 16000000 in
theorem crashS (k : Nat) (A B : List GSt) (h2 : B.length ≤ 1048576) (f2 : ∀ x ∈ B, x.few) (g : Bool) (o1 : ∀ k, call code (k + 9) 128 [stV A B] [] = some ⟨.bool g, [], []⟩) : call code (k + 10) 49 [stV A B] [] = some (if g then resST B B else resST [] []) := by
  refine call_run rfl fn49 rfl ?_
  have q2 := fun k => l18Own k B h2 f2
  have l2 := rws_len (enc := GSt.enco) B
  have n1 : rws GSt.enco [] = [] := rfl
  unfold stV resST at *
  rw [n1]
  generalize rws GSt.enco B = R2 at *
  cases g
  · simp [F49, rcall128, o1, storeM, moveCells, moveCell, fillOk, AV.own0, AV.ownF]
  · simp [F49, rcall128, rcall129, o1, q2, storeM, moveCells, moveCell, fillOk, AV.own0, AV.ownF, l2]
end Go.Ae.GA.B
namespace Go.Ae.GA.B
set_option linter.unusedSimpArgs false
set_option linter.unusedVariables false
set_option maxRecDepth 10000
set_option maxHeartbeats 16000000 in
theorem markStore (k lv : Nat) (E : List Heap) (S1 S2 : Nat) (A B : List GSt) (c : Int) (hA : A.length ≤ 1048576) (hB : B.length ≤ 1048576) (wA : wsum GSt.wt A ≤ 1048576) (wB : wsum GSt.wt B ≤ 1048576) (hc : 1 ≤ c ∧ c ≤ 100000000) (hlv : lv < E.length)
    (g1 : (hat E lv).get S1 = some (some ⟨0, 12, false, false, rws GSt.enco A⟩)) (g2 : (hat E lv).get S2 = some (some ⟨0, 12, false, false, rws GSt.enco B⟩)) (ne : S2 ≠ S1) :
    call code (k + 4) 53 [.agg [.sl (lv + 1) S1 0 [] 0 A.length, .sl (lv + 1) S2 0 [] 0 B.length], .int .i64 c] E = some ⟨.int .i64 (nxtM (nxtM c A) B), [], E.modify lv fun h => hp (hp h S1 (mkb 0 c A) A.length) S2 (mkb 0 (nxtM c A) B) B.length⟩ := by
  refine call_run rfl fn53 rfl ?_
  have hb := nxtM_bound c A
  have q0 := fun k l0 => markPgStateS k (lv + 1) (l0 :: E) S1 0 A c hA wA (by omega) (by simp; omega) (by simpa using g1)
  have q1 := fun k l0 => markPgStateS k (lv + 1) (l0 :: E.modify lv fun h => hp h S1 (mkb 0 c A) A.length) S2 0 B (nxtM c A) hB wB (by omega) (by simp; omega) (by rw [hat_cons, hat_modify hlv, hp_ne ne]; exact g2)
  simp [F53, rcall134, q0, q1, storeM, modify_modify', hlv]
set_option maxHeartbeats 16000000 in
theorem heldStore (k : Nat) (A B : List GSt) (c : Int) (hA : A.length ≤ 1048576) (hB : B.length ≤ 1048576) (wA : wsum GSt.wt A ≤ 1048576) (wB : wsum GSt.wt B ≤ 1048576) (hc : 1 ≤ c ∧ c ≤ 100000000) :
    call code (k + 4) 54 [stV (mkl c A) (mkl (nxtM c A) B), .int .i64 c] [] = some ⟨.int .i64 (nxtM (nxtM c A) B), [], []⟩ := by
  refine call_run rfl fn54 rfl ?_
  have hb := nxtM_bound c A
  have hb2 := nxtM_bound (nxtM c A) B
  have q0 := fun k => heldPgStateS k A c hA wA (by omega)
  have q1 := fun k => heldPgStateS k B (nxtM c A) hB wB (by omega)
  have d0 : decide (nxtM c A < 0) = false := by simp; omega
  have d1 : decide (nxtM (nxtM c A) B < 0) = false := by simp; omega
  unfold stV
  generalize rws GSt.enc (mkl c A) = R1 at *
  generalize rws GSt.enc (mkl (nxtM c A) B) = R2 at *
  generalize nxtM (nxtM c A) B = c2 at *
  generalize nxtM c A = c1 at *
  simp [F54, rcall135, q0, q1, d0, d1]
theorem hpb {l : Heap} {S : Nat} {c : Int} {A : List GSt} (h : l.set S (some ⟨0, 12, false, false, rws GSt.enco A⟩) = l) : hp l S (mkb 0 c A) A.length = l.set S (some ⟨0, 12, false, false, rws GSt.enco (mkl c A)⟩) := by
  rw [hp_all (by rw [mkb, mkd_zero]; exact h), mkb, mkd_all]
theorem crashs (A B : List GSt) (h1 : A.length ≤ 1048576) (h2 : B.length ≤ 1048576) (f1 : ∀ x ∈ A, x.small) (f2 : ∀ x ∈ B, x.small) (wB : wsum GSt.wt B ≤ 1048576) :
    ∃ C, (∀ k, call code (k + 10) 51 [stV A B] [] = some (resST C C)) ∧ (∀ k, call code (k + 10) 49 [stV A B] [] = some (resST C C)) ∧ C.length ≤ 1048576 ∧ wsum GSt.wt C ≤ 1048576 ∧ ∀ x ∈ C, x.few := by
  have o1 := fun k => storeOk k A B h1 h2 f1 f2
  have o2 := fun k => storeOkS k A B h1 h2 f1 f2
  have I := fun k => crashI k A B h2 (fun x hx => (f2 x hx).1) _ o1
  have S := fun k => crashS k A B h2 (fun x hx => (f2 x hx).1) _ o2
  cases g : (stsB A && stsB B) <;> rw [g] at I S
  · exact ⟨[], I, S, by simp, by simp [wsum], by simp⟩
  · exact ⟨B, I, S, h2, wB, fun x hx => (f2 x hx).1⟩
set_option maxRecDepth 100000 in
set_option maxHeartbeats 200000000 in
theorem law11 (n : Nat) (A B : List GSt) (h1 : A.length ≤ 140737488351232) (h2 : B.length ≤ 140737488351232) (f1 : ∀ x ∈ A, x.ok) (f2 : ∀ x ∈ B, x.ok) :
    call code (n + 12) 11 [stV A B] [] = some ⟨.bool true, [], []⟩ := by
  refine call_run rfl fn11 rfl ?_
  have z1 := fun k => szStore k 1048576 A B (by omega) h1 h2 f1 f2
  cases g1 : decide (szV 1048576 ((A.length + wsum GSt.wt A) + (B.length + wsum GSt.wt B)) < 0)
  rotate_left
  · obtain ⟨_, e1⟩ := szV_neg g1 (by omega)
    rw [e1] at z1
    unfold stV
    simp [F11, rcall48, z1]
  obtain ⟨a1', e1⟩ := szV_pos g1 (by omega)
  rw [e1] at z1 g1
  have small : ∀ (ws : List GSt), wsum GSt.wt ws ≤ 1048576 → ∀ x ∈ ws, x.small := fun ws hw x hx => by
    have hm := wsum_mem (w := GSt.wt) hx
    have hxw : GSt.wt x ≤ 1048576 := by omega
    unfold GSt.wt at hxw
    exact ⟨⟨by omega, by omega, by omega, by omega⟩, h_names (by omega), e_names (by omega), c_names (by omega)⟩
  have wA : wsum GSt.wt A ≤ 1048576 := by omega
  have wB : wsum GSt.wt B ≤ 1048576 := by omega
  have bA : A.length ≤ 1048576 := by omega
  have bB : B.length ≤ 1048576 := by omega
  have sA := small A wA
  have sB := small B wB
  generalize ((A.length + wsum GSt.wt A) + (B.length + wsum GSt.wt B)) = wa at *
  obtain ⟨C, hi, hs, bC, wC, fC⟩ := crashs A B bA bB sA sB wB
  have tA := fun k => toStore k A B bA bB (fun x hx => (sA x hx).1) (fun x hx => (sB x hx).1)
  have eA := fun k => eqStore k A B (by omega) (by omega) (fun x hx => (sA x hx).1) (fun x hx => (sB x hx).1)
  have eR := fun k => eqStore k C C (by omega) (by omega) fC fC
  have mA := fun k lv E S1 S2 hlv ga gb ne => markStore k lv E S1 S2 A B 1 bA bB wA wB (by omega) hlv ga gb ne
  have mR := fun k lv E S1 S2 hlv ga gb ne => markStore k lv E S1 S2 C C 1 bC bC wC wC (by omega) hlv ga gb ne
  have hh := fun k => heldStore k C C 1 bC bC wC wC (by omega)
  have pA := fun (c : Int) (l : Heap) (S : Nat) (hh : l.set S (some ⟨0, 12, false, false, rws GSt.enco A⟩) = l) => hpb (c := c) hh
  have pB := fun (c : Int) (l : Heap) (S : Nat) (hh : l.set S (some ⟨0, 12, false, false, rws GSt.enco B⟩) = l) => hpb (c := c) hh
  have pC := fun (c : Int) (l : Heap) (S : Nat) (hh : l.set S (some ⟨0, 12, false, false, rws GSt.enco C⟩) = l) => hpb (c := c) hh
  have lA := rws_len (enc := GSt.enco) A
  have lB := rws_len (enc := GSt.enco) B
  have lC := rws_len (enc := GSt.enco) C
  have lM := fun c ws => (rws_len (enc := GSt.enco) (mkl c ws)).trans (mkl_len c ws)
  have kA := tkE (enc := GSt.enco) (l := A) rfl
  have kB := tkE (enc := GSt.enco) (l := B) rfl
  have kC := tkE (enc := GSt.enco) (l := C) rfl
  have kM := fun c ws => tkE (enc := GSt.enco) (mkl_len c ws)
  have dw := fun l => deep_own l
  have b1 := nxtM_bound 1 A
  have b2 := nxtM_bound (nxtM 1 A) B
  have b3 := nxtM_bound 1 C
  have b4 := nxtM_bound (nxtM 1 C) C
  have d1 : decide (nxtM (nxtM 1 A) B < 0) = false := by simp; omega
  have d3 : decide (nxtM (nxtM 1 C) C < 0) = false := by simp; omega
  clear small sA sB
  unfold resST stV at *
  simp (maxSteps := 40000000) [F11, rcall48, z1, g1, rcall50, tA, rcall49, hs, rcall51, hi, rcall52, eA, eR, rcall53, mA, mR, rcall54, hh, storeM, moveCells, moveCell, fillOk, AV.own0, AV.ownF, d1, d3, pA, pB, pC, lA, lB, lC, lM, kA, kB, kC, kM, dw]
end Go.Ae.GA.B
namespace Go.Ae.GA.B
set_option linter.unusedSimpArgs false
set_option linter.unusedVariables false
theorem fitSt : ∀ {xs : List (List AV)}, (∀ r ∈ xs, FitsAll [.int .i64, .int .i64, .int .i64, .int .i64, .int .i64, .int .i64, .sl 48 [.str, .int .i64, .int .i64, .int .i64, .int .i64], .sl 32 [.int .i64, .int .i64, .int .i64, .int .i64], .sl 88 [.int .i64, .int .i64, .int .i64, .int .i64, .str, .bool, .int .i64, .int .i64, .int .i64, .int .i64], .int .i64, .int .i64, .sl 64 [.str, .int .i64, .int .i64, .int .i64, .int .i64, .str]] r) → ∃ ws : List GSt, xs = rws GSt.enc ws ∧ ∀ x ∈ ws, x.ok
  | [], _ => ⟨[], rfl, fun _ h => by cases h⟩
  | r :: xs, h => by
    obtain ⟨p0, p1, se, st, te, ts, hs, ls, es, fe, fs, ks, e1, x1, x2, x3, x5, x6, x7, x8⟩ := ps_inv (h r List.mem_cons_self)
    obtain ⟨ws, rfl, hw⟩ := fitSt fun x hx => h x (List.mem_cons_of_mem _ hx)
    have e2 := AV.agg.inj e1
    subst e2
    exact ⟨⟨p0, p1, se, st, te, ts, hs, ls, es, fe, fs, ks⟩ :: ws, rfl, fun s hs' => by rcases List.mem_cons.1 hs' with rfl | hs'; exact ⟨x1, x2, x3, x5, x6, x7, x8⟩; exact hw s hs'⟩
theorem lawCrashStore (avs : List AV) (h : PFitsAll [(true, [.sl 160 [.int .i64, .int .i64, .int .i64, .int .i64, .int .i64, .int .i64, .sl 48 [.str, .int .i64, .int .i64, .int .i64, .int .i64], .sl 32 [.int .i64, .int .i64, .int .i64, .int .i64], .sl 88 [.int .i64, .int .i64, .int .i64, .int .i64, .str, .bool, .int .i64, .int .i64, .int .i64, .int .i64], .int .i64, .int .i64, .sl 64 [.str, .int .i64, .int .i64, .int .i64, .int .i64, .str]], .sl 160 [.int .i64, .int .i64, .int .i64, .int .i64, .int .i64, .int .i64, .sl 48 [.str, .int .i64, .int .i64, .int .i64, .int .i64], .sl 32 [.int .i64, .int .i64, .int .i64, .int .i64], .sl 88 [.int .i64, .int .i64, .int .i64, .int .i64, .str, .bool, .int .i64, .int .i64, .int .i64, .int .i64], .int .i64, .int .i64, .sl 64 [.str, .int .i64, .int .i64, .int .i64, .int .i64, .str]]])] avs) : ∃ n bs e, call code n 11 avs [] = some ⟨.bool true, bs, e⟩ := by
  obtain ⟨v0, r, rfl, h0, h⟩ := h.cons_inv
  obtain rfl := h.nil_inv
  obtain ⟨cs, rfl, f0⟩ := h0.agg_inv
  obtain ⟨_, _, rfl, c0, f0⟩ := f0.cons_inv
  obtain ⟨_, _, rfl, c1, f0⟩ := f0.cons_inv
  obtain rfl := f0.nil_inv
  obtain ⟨xs, rfl, l0, r0⟩ := c0.sl_inv
  obtain ⟨A, rfl, oA⟩ := fitSt r0
  rw [rws_len] at l0
  obtain ⟨ys, rfl, l1, r1⟩ := c1.sl_inv
  obtain ⟨B, rfl, oB⟩ := fitSt r1
  rw [rws_len] at l1
  exact ⟨_, _, _, law11 0 A B (by omega) (by omega) oA oB⟩
end Go.Ae.GA.B
