/- The law FnTorn. -/
import Derived.Test.YtbnfbihdcpdkkaaR4M6
import Derived.Test.YtbnfbihdcpdkkaaR4M5
namespace Go.Ae.R4
set_option linter.unusedSimpArgs false
set_option linter.unusedVariables false
theorem diskB_flush {ss : List ByteArray} {ps : List (Int × ByteArray)} (h : diskB ss ps = true) : diskB (flI ss ps ps.length) [] = true := by
  have hp : ∀ p ∈ ps, secB p.2 = true := fun p hp => by
    unfold diskB at h
    simp only [Bool.and_eq_true, List.all_eq_true] at h
    have := h.2 p hp
    simp only [goodP, Bool.and_eq_true] at this
    exact this.2
  unfold diskB at h ⊢
  simp only [Bool.and_eq_true] at h
  rw [flI_len, flI_all h.1.2 hp ps.length (Nat.le_refl _), h.1.1.1]
  simp
theorem diskB_one {ts : List ByteArray} {a : Nat} {t : ByteArray} (h : diskB ts [] = true) (ha : a < ts.length) (ht : secB t = true) : diskB ts [((a : Int), t)] = true := by
  unfold diskB at h ⊢
  simp only [Bool.and_eq_true] at h
  rw [h.1.1.1, h.1.2]
  simp only [List.all_cons, List.all_nil, goodP, ht]
  simp [inB]
  omega
set_option maxRecDepth 100000 in
set_option maxHeartbeats 16000000 in
theorem law4 (n : Nat) (l m : List UInt8) : call code (n + 12) 4 [.rd true (rws encU l), .rd true (rws encU m)] [] = some ⟨.bool true, [], []⟩ := by
  refine call_run rfl fn4 rfl ?_
  have h1 := fun k => b10Long k l m
  cases c1 : decide ((1048576 : Int) < l.length) || decide ((1048576 : Int) < m.length)
  rotate_left
  · rw [c1] at h1
    simp [F4, rcall8, h1]
  rw [c1] at h1
  have hm : m.length ≤ 1048576 := by simp at c1; omega
  have ba := fun k => b10At k m hm
  have tl_ := tAt_le m
  generalize tAt m = tn at *
  obtain ⟨ss, ps, a, t, k1, k2, h2⟩ := drawWrite l
  have l1 := rowsT_len ss
  have l2 := rowsP_len ps
  have tk1 : (rowsT ss).take ss.length = rowsT ss := List.take_of_length_le (by omega)
  have tk2 : (rowsP ps).take ps.length = rowsP ps := List.take_of_length_le (by omega)
  have s1 := fun n => specDisk n ss ps (by omega) (by omega)
  cases c2 : diskB ss ps
  · rw [c2] at s1
    simp [F4, rcall8, h1, rcall12, h2, storeM, rcall13, tk1, tk2, l1, l2, s1]
  rw [c2] at s1
  have fd := fun k => flushDisk k ss ps (by omega) (by omega) c2
  have dt := diskB_flush c2
  have tl := flI_len ss ps ps.length
  generalize flI ss ps ps.length = ts at *
  have l3 := rowsT_len ts
  rw [tl] at l3
  have tk3 : (rowsT ts).take ss.length = rowsT ts := List.take_of_length_le (by omega)
  have p0 : rowsP [] = [] := rfl
  have hna : ¬ (a : Int) < 0 := by omega
  have t0 : rowsT [] = [] := rfl
  by_cases c3 : a < ss.length ∧ t.size = 64
  rotate_left
  · have wb : writeB ts [] a t = false := by
      unfold writeB
      rw [dt]
      by_cases hs : t.size = 64
      · have : ¬ a < ss.length := fun h => c3 ⟨h, hs⟩
        have e : inB (a : Int) 0 ((ts.length : Int) - 1) = false := by simp [inB]; omega
        rw [e]; simp
      · have e : secB t = false := by simp [secB]; omega
        rw [e]; simp
    obtain ⟨e, he, h3⟩ := writeBad ts [] a t (by omega) (by simp) wb
    simp only [resD, dsk, p0] at h3
    by_cases ha : ss.length ≤ a
    · have ha' : (ss.length : Int) ≤ (a : Int) := by omega
      simp [F4, rcall8, h1, rcall12, h2, storeM, rcall13, tk1, tk2, l1, l2, s1, rcall14, fd, tk3, l3, rcall15, h3, he, ha, hna, t0]
    · have hs : ((t.size : Int) != 64) = true := by simp; intro h; exact c3 ⟨by omega, by omega⟩
      simp [F4, rcall8, h1, rcall12, h2, storeM, rcall13, tk1, tk2, l1, l2, s1, rcall14, fd, tk3, l3, rcall15, h3, he, ha, hs, hna, t0]
  obtain ⟨ha, hs⟩ := c3
  have st : secB t = true := by simp [secB]; omega
  have wb : writeB ts [] a t = true := by
    unfold writeB
    rw [dt, st]
    simp [inB]; omega
  have h3 := fun k => writeGood ts [] a t (by omega) (by simp) wb k
  have hat : a < ts.length := by omega
  have hal : ts.all secB = true := by have := dt; unfold diskB at this; simp only [Bool.and_eq_true] at this; exact this.1.2
  have h64 : ts[a].size = 64 := by have := List.all_eq_true.1 hal _ (List.getElem_mem hat); simp [secB] at this; omega
  have pl := fun k => powerLoss k ts a t ts[a] tn tl_ (List.getElem?_eq_getElem hat) h64 (diskB_one dt hat st)
  have l4 := rowsT_len (ts.set a (torn tn t ts[a]))
  simp only [List.length_set, tl] at l4
  have hgy : ∀ h : a < (rowsT (ts.set a (torn tn t (ts[a]'hat)))).length, (rowsT (ts.set a (torn tn t (ts[a]'hat))))[a]'h = [.str (torn tn t ts[a])] := fun h => by simp [rowsT]
  have hgt : ∀ h, (rowsT ts)[a]'h = [.str ts[a]] := fun h => rowsT_at hat h
  have hne : ∀ i, i < ss.length → i ≠ a → ∃ v, (∀ h : i < (rowsT (ts.set a (torn tn t (ts[a]'hat)))).length, (rowsT (ts.set a (torn tn t (ts[a]'hat))))[i]'h = [.str v]) ∧ ∀ h, (rowsT ts)[i]'h = [.str v] := fun i hi h => by
    refine ⟨ts[i]'(by omega), fun h' => ?_, fun h' => rowsT_at (by omega) h'⟩
    simp only [rowsT, List.getElem_map, List.getElem_set]
    rw [if_neg (by omega)]
  have hto : torn tn t ts[a] = t.extract 0 tn ++ ts[a].extract tn 64 := rfl
  have tk4 : (rowsT (ts.set a (torn tn t ts[a]))).take ss.length = rowsT (ts.set a (torn tn t ts[a])) := List.take_of_length_le (by omega)
  simp only [resD, dsk, p0, List.nil_append, tl, List.length_set, List.length_singleton, List.length_nil] at h3 pl
  generalize ts[a] = s at *
  generalize rowsT (ts.set a (torn tn t s)) = Y at *
  generalize rowsT ts = T at *
  generalize hPP : rowsP [((a : Int), t)] = PP at *
  have l5 : PP.length = 1 := by rw [← hPP]; rfl
  have ha' : ¬ ss.length ≤ a := by omega
  have hs' : ((t.size : Int) != 64) = false := by simp; omega
  have tk5 : PP.take 1 = PP := List.take_of_length_le (by omega)
  have tn' : (tn : Int) ≤ 64 := by omega
  simp [F4, rcall8, h1, rcall12, h2, storeM, rcall13, tk1, tk2, l1, l2, s1, rcall14, fd, tk3, l3, rcall15, h3, hna, ha', hs', rcall16, ba, rcall17, pl, l4, tk4, tk5, l5]
  clear h1 ba h2 s1 fd h3 pl
  generalize rowsP ps = Q at *
  generalize rowsT ss = U at *
  generalize hN : ss.length = N at *
  refine RunC_loop (fun i : Nat => ⟨tm 119 [(5, .ptr 0 198144 0 [] 0 0), (6, .int .i64 a), (7, .str t), (10, .int .i64 tn), (11, .ptr 0 853760 0 [] 0 0), (13, .int .i64 i)],
      [(196864, some ⟨0, 1, false, true, U⟩), (196865, some ⟨0, 2, false, true, Q⟩)] ++ dH 198144 393472 393473 N 0 ++ [(393472, some ⟨0, 1, false, true, T⟩), (393473, some ⟨0, 2, false, true, []⟩), (459520, some ⟨0, 1, false, true, T⟩), (459521, some ⟨0, 2, false, true, PP⟩)] ++ dH 460544 459520 459521 N 1 ++ [(852224, some ⟨0, 1, false, true, [[.int .i64 0]]⟩), (852736, some ⟨0, 1, false, true, Y⟩), (852737, some ⟨0, 2, false, true, []⟩)] ++ dH 853760 852736 852737 N 0, []⟩)
    (fun i => i ≤ N) (fun i => N - i) 0 (Nat.zero_le _) (by simp; omega) (by simp [tm, dH]) fun i hi _ => ?_
  by_cases hlt : i < N
  · have hs2 := idx_succ' hlt (by omega)
    by_cases hia : i = a
    · have e : ((i : Int) != (a : Int)) = false := by simp; omega
      simp [tm, dH, hlt, l3, e, hs2]
      exact ⟨i + 1, by omega, by omega, by simp⟩
    · have e : ((i : Int) != (a : Int)) = true := by simp; omega
      obtain ⟨v, v1, v2⟩ := hne i hlt hia
      simp [tm, dH, hlt, l3, l4, e, hs2, v1, v2]
      exact ⟨i + 1, by omega, by omega, by simp⟩
  · have : i = N := by omega
    subst this
    simp [tm, dH, l3, l4, ha, hgy, hgt, hs, h64, tl_, tn', hto]
theorem lawTorn (avs : List AV) (h : PFitsAll [(false, [.sl 1 [.int .u8]]), (false, [.sl 1 [.int .u8]])] avs) : ∃ n bs e, call code n 4 avs [] = some ⟨.bool true, bs, e⟩ := by
  obtain ⟨v0, r, rfl, h0, h⟩ := h.cons_inv
  obtain ⟨v1, r, rfl, h1, h⟩ := h.cons_inv
  obtain rfl := h.nil_inv
  obtain ⟨ys, rfl, _, kr⟩ := h0.one_inv.sl_inv
  obtain ⟨l, rfl⟩ := fitU kr
  obtain ⟨zs, rfl, _, kz⟩ := h1.one_inv.sl_inv
  obtain ⟨m, rfl⟩ := fitU kz
  exact ⟨_, _, _, law4 0 l m⟩
end Go.Ae.R4
