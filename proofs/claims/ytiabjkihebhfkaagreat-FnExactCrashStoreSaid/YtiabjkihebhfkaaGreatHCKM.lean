/- An entry put among heads. -/
import Derived.Test.YtiabjkihebhfkaaGreatHCB
namespace Go.Ae.GA.B
set_option linter.unusedSimpArgs false
set_option linter.unusedVariables false
theorem tkE {α : Type} {enc : α → List AV} {l : List α} {n : Nat} (h : l.length = n) : (rws enc l).take n = rws enc l := by subst h; exact rws_takeLen enc l
def ltNm (a b : ByteArray) : Bool := Op.bytesLess a.toList b.toList
/-- How many heads stand ahead of a name. -/
def ixH (nm : ByteArray) : List GHead → Nat
  | [] => 0
  | h :: r => if ltNm h.Name nm then ixH nm r + 1 else 0
theorem ixH_le (nm : ByteArray) : ∀ hs, ixH nm hs ≤ hs.length
  | [] => Nat.le_refl _
  | h :: r => by
    unfold ixH
    have := ixH_le nm r
    split <;> simp <;> omega
theorem ixH_of {nm : ByteArray} : ∀ {hs : List GHead} {i : Nat}, (∀ j, j < i → ∀ h, hs[j]? = some h → ltNm h.Name nm = true) → (∀ h, hs[i]? = some h → ltNm h.Name nm = false) → i ≤ hs.length → ixH nm hs = i
  | [], i, _, _, h => by simp at h; subst h; rfl
  | h :: r, 0, _, h2, _ => by
    have := h2 h rfl
    unfold ixH; rw [this]; rfl
  | h :: r, i + 1, h1, h2, h3 => by
    have a := h1 0 (by omega) h rfl
    unfold ixH
    rw [a, if_pos rfl, ixH_of (i := i) (fun j hj x hx => h1 (j + 1) (by omega) x (by simpa using hx)) (fun x hx => h2 x (by simpa using hx)) (by simpa using h3)]
def hdOf (e : GEntry) : GHead := ⟨e.Name, e.Ver_Epoch, e.Ver_Seq, e.Size, e.Sum⟩
/-- Whether a head of that name stands at the place. -/
def hitH (nm : ByteArray) (hs : List GHead) : Bool := match hs[ixH nm hs]? with
  | some h => h.Name.toList == nm.toList
  | none => false
def putH (hs : List GHead) (e : GEntry) : List GHead := hs.take (ixH e.Name hs) ++ (if e.Gone then [] else [hdOf e]) ++ hs.drop (if hitH e.Name hs then ixH e.Name hs + 1 else ixH e.Name hs)
theorem rws_take' {α : Type} (enc : α → List AV) (l : List α) (n : Nat) : (rws enc l).take n = rws enc (l.take n) := by simp [rws, List.map_take]
theorem rws_drop' {α : Type} (enc : α → List AV) (l : List α) (n : Nat) : (rws enc l).drop n = rws enc (l.drop n) := by simp [rws, List.map_drop]
theorem putH_le (hs : List GHead) (e : GEntry) : (putH hs e).length ≤ hs.length + 1 := by
  have := ixH_le e.Name hs
  unfold putH
  simp only [List.length_append, List.length_take, List.length_drop]
  split <;> split <;> simp <;> omega
theorem rws5 (l : List GHead) : ∀ y ∈ rws GHead.enc l, y.length = 5 := fun y hy => by
  have := List.all_eq_true.1 (rws_all GHead.enc (sz := 5) (fun _ => rfl) l) y hy
  simpa using this
set_option maxRecDepth 100000 in
set_option maxHeartbeats 64000000 in
theorem l17Put (k : Nat) (hs : List GHead) (e : GEntry) (hn : hs.length ≤ 2000000) : call code (k + 1) 175 [.rd true (rws GHead.enc hs), .agg (GEntry.enc e)] [] = some ⟨.sl 0 0 0 [] 0 (putH hs e).length, [⟨0, 5, false, true, rws GHead.enc (putH hs e)⟩], []⟩ := by
  refine call_run rfl fn175 rfl ?_
  have hrl := rws_len (enc := GHead.enc) hs
  have hgx : ∀ i (hi : i < hs.length) (hh : i < (rws GHead.enc hs).length), (rws GHead.enc hs)[i]'hh = GHead.enc hs[i] := fun i hi hh => rws_get ..
  simp only [GEntry.enc]
  simp [F175]
  refine RunC_loop (fun i : Nat => ⟨tm 64 [(0, .rd true (rws GHead.enc hs)), (3, .ptr 0 0 0 [] 0 0), (5, .int .i64 i)], [(0, some ⟨0, 10, true, false, [[.int .i64 e.Ver_Epoch, .int .i64 e.Ver_Seq, .int .i64 e.Prior_Epoch, .int .i64 e.Prior_Seq, .str e.Name, .bool e.Gone, .int .i64 e.Size, .int .i64 e.Sum, .int .i64 e.Req_Client, .int .i64 e.Req_No]]⟩), (256, some ⟨0, 5, false, true, []⟩)], []⟩)
    (fun i => i ≤ hs.length ∧ ∀ j, j < i → ∀ h, hs[j]? = some h → ltNm h.Name e.Name = true) (fun i => hs.length - i) 0 ⟨by omega, by omega⟩ (by simp; omega) (by simp [tm]) fun i hi _ => ?_
  obtain ⟨hi, h0⟩ := hi
  have hT := rws_take' GHead.enc hs i
  have hTl : (hs.take i).length = i := by simp; omega
  have hTr := rws_len (enc := GHead.enc) (hs.take i)
  have hT5 := rws5 (hs.take i)
  have hsucc : IntKind.wrap .i64 ((i : Int) + 1) = ((i + 1 : Nat) : Int) := by rw [wrap64 ⟨by omega, by omega⟩]; omega
  have fin : ∀ h1 : ixH e.Name hs = i, putH hs e = hs.take i ++ (if e.Gone then [] else [hdOf e]) ++ hs.drop (if hitH e.Name hs then i + 1 else i) := fun h1 => by unfold putH; rw [h1]
  by_cases hlt : i < hs.length
  · have hg := hgx i hlt
    simp only [GHead.enc] at hg
    cases c1 : ltNm hs[i].Name e.Name
    rotate_left
    · unfold ltNm at c1
      simp [tm, hlt, hg, c1, hsucc]
      refine ⟨i + 1, ⟨by omega, fun j hj h hh => ?_⟩, by omega, by omega⟩
      rcases Nat.lt_succ_iff_lt_or_eq.1 hj with h1 | rfl
      · exact h0 j h1 h hh
      · rw [List.getElem?_eq_getElem hlt] at hh; cases hh; exact c1
    · have hx := ixH_of h0 (fun h hh => by rw [List.getElem?_eq_getElem hlt] at hh; cases hh; exact c1) hi
      have hf := fin hx
      have hh : hitH e.Name hs = (hs[i].Name.toList == e.Name.toList) := by unfold hitH; rw [hx, List.getElem?_eq_getElem hlt]
      unfold ltNm at c1
      rw [hh] at hf
      have hD0 := rws_drop' GHead.enc hs i
      have hD1 := rws_drop' GHead.enc hs (i + 1)
      have a1 := rws_app (enc := GHead.enc) (hs.take i) [hdOf e]
      have r1 : rws GHead.enc [hdOf e] = [[.str e.Name, .int .i64 e.Ver_Epoch, .int .i64 e.Ver_Seq, .int .i64 e.Size, .int .i64 e.Sum]] := rfl
      rw [r1] at a1
      have D05 := rws5 (hs.drop i)
      have D15 := rws5 (hs.drop (i + 1))
      have l0 : (hs.drop i).length = hs.length - i := by simp
      have l1 : (hs.drop (i + 1)).length = hs.length - (i + 1) := by simp
      have R0 := rws_len (enc := GHead.enc) (hs.drop i)
      have R1 := rws_len (enc := GHead.enc) (hs.drop (i + 1))
      rw [l0] at R0
      rw [l1] at R1
      rw [hTl] at hTr
      have hR5 := rws5 hs
      have kD0 : (rws GHead.enc (hs.drop i)).take (hs.length - i) = rws GHead.enc (hs.drop i) := tkE l0
      have kD1 : (rws GHead.enc (hs.drop (i + 1))).take (hs.length - (i + 1)) = rws GHead.enc (hs.drop (i + 1)) := tkE l1
      have kT : (rws GHead.enc (hs.take i)).take i = rws GHead.enc (hs.take i) := tkE hTl
      have hi1 : i + 1 ≤ hs.length := hlt
      have goal : ∀ (b g : Bool), (hs[i].Name.toList == e.Name.toList) = b → e.Gone = g → rws GHead.enc (putH hs e) = rws GHead.enc (hs.take i) ++ (if g then [] else [[.str e.Name, .int .i64 e.Ver_Epoch, .int .i64 e.Ver_Seq, .int .i64 e.Size, .int .i64 e.Sum]]) ++ rws GHead.enc (hs.drop (if b then i + 1 else i)) ∧ (putH hs e).length = i + (if g then 0 else 1) + (hs.length - (if b then i + 1 else i)) := fun b g hb hg' => by
        rw [hf, hb, hg']
        constructor
        · rw [rws_app, rws_app]; cases g <;> rfl
        · simp only [List.length_append, hTl, List.length_drop]; cases g <;> simp
      clear hf fin
      have kR : (rws GHead.enc hs).take hs.length = rws GHead.enc hs := tkE rfl
      have b1 : i * 48 ≤ 140737488355328 := by omega
      have q1 : (0 : Int) ≤ (i : Int) + 1 := by omega
      have q2 : (i : Int) + 1 ≤ (hs.length : Int) := by omega
      cases c2 : hs[i].Name.toList == e.Name.toList <;> cases c3 : e.Gone <;> obtain ⟨g1, g2⟩ := goal _ _ c2 c3 <;> simp only [if_true, Bool.false_eq_true, if_false] at g1 g2 <;> rw [g1, g2]
      all_goals
        clear goal g1 g2
        generalize rws GHead.enc (hs.drop (i + 1)) = D1 at *
        generalize rws GHead.enc (hs.drop i) = D0 at *
        generalize rws GHead.enc (hs.take i) = T at *
        generalize rws GHead.enc hs = R at *
        simp [tm, hlt, hg, c1, hsucc, c2, c3, hT, hTr, kT, evalW, source, hrl, hi, hi1, b1, kR, hD0, hD1, kD0, kD1, R0, R1, q1, q2]
        repeat' apply And.intro
        all_goals first | exact hR5 | exact hT5 | exact D05 | exact D15 | omega | rfl
  · have : i = hs.length := by omega
    subst this
    have hx := ixH_of h0 (fun h hh => by simp at hh) hi
    have hf := fin hx
    have hh : hitH e.Name hs = false := by unfold hitH; rw [hx]; simp
    have hR5 := rws5 hs
    have kT : (hs.take hs.length) = hs := List.take_length
    have kR : (rws GHead.enc hs).take hs.length = rws GHead.enc hs := tkE rfl
    have kD : (rws GHead.enc hs).drop hs.length = [] := List.drop_eq_nil_of_le (by omega)
    rw [hh] at hf
    simp only [Bool.false_eq_true, if_false, kT, List.drop_length, List.append_nil] at hf
    have hd : rws GHead.enc [hdOf e] = [[.str e.Name, .int .i64 e.Ver_Epoch, .int .i64 e.Ver_Seq, .int .i64 e.Size, .int .i64 e.Sum]] := rfl
    have b1 : hs.length * 48 ≤ 140737488355328 := by omega
    cases c3 : e.Gone <;> rw [c3] at hf <;> simp only [if_true, Bool.false_eq_true, if_false, List.append_nil] at hf <;> rw [hf]
    · rw [rws_app, hd, List.length_append]
      generalize rws GHead.enc hs = R at *
      simp [tm, c3, evalW, source, hrl, b1, kR, kD]
      repeat' apply And.intro
      all_goals first | exact hR5 | omega | rfl
    · generalize rws GHead.enc hs = R at *
      simp [tm, c3, evalW, source, hrl, b1, kR, kD]
      repeat' apply And.intro
      all_goals first | exact hR5 | omega | rfl
end Go.Ae.GA.B
namespace Go.Ae.GA.B
set_option linter.unusedSimpArgs false
set_option linter.unusedVariables false
theorem bl_irr' : ∀ l : List UInt8, Op.bytesLess l l = false
  | [] => rfl
  | a :: x => by simp [Op.bytesLess, bl_irr' x]
theorem bl_trans : ∀ a b c : List UInt8, Op.bytesLess a b = true → Op.bytesLess b c = true → Op.bytesLess a c = true
  | _, _, [], _, h => by simp [Op.bytesLess] at h
  | _, [], c :: z, h, _ => by simp [Op.bytesLess] at h
  | [], b :: y, c :: z, _, _ => rfl
  | a :: x, b :: y, c :: z, h1, h2 => by
    simp only [Op.bytesLess, Bool.or_eq_true, decide_eq_true_eq, Bool.and_eq_true, beq_iff_eq] at h1 h2 ⊢
    rcases h1 with h1 | ⟨rfl, h1⟩
    · rcases h2 with h2 | ⟨rfl, h2⟩
      · exact .inl (UInt8.lt_trans h1 h2)
      · exact .inl h1
    · rcases h2 with h2 | ⟨rfl, h2⟩
      · exact .inl h2
      · exact .inr ⟨rfl, bl_trans x y z h1 h2⟩
theorem bl_tri : ∀ a b : List UInt8, Op.bytesLess a b = false → a ≠ b → Op.bytesLess b a = true
  | [], [], _, h => absurd rfl h
  | [], b :: y, h, _ => by simp [Op.bytesLess] at h
  | a :: x, [], _, _ => rfl
  | a :: x, b :: y, h, hn => by
    simp only [Op.bytesLess, Bool.or_eq_false_iff, decide_eq_false_iff_not, Bool.and_eq_false_iff] at h
    simp only [Op.bytesLess, Bool.or_eq_true, decide_eq_true_eq, Bool.and_eq_true, beq_iff_eq]
    by_cases h1 : b < a
    · exact .inl h1
    · have e : a = b := by
        have := h.1
        rw [UInt8.lt_iff_toNat_lt] at h1 this
        exact UInt8.toNat_inj.1 (by omega)
      subst e
      have h2 : Op.bytesLess x y = false := by
        rcases h.2 with h2 | h2
        · simp at h2
        · exact h2
      exact .inr ⟨rfl, bl_tri x y h2 (fun hh => hn (by rw [hh]))⟩
def nmH (h : GHead) : N := h.Name.data.toList
theorem tlx (s : ByteArray) : s.toList = s.data.toList := ByteArray.toList_eq s
/-- Heads in order. -/
def Srt (hs : List GHead) : Prop := hs.Pairwise fun a b => Op.bytesLess (nmH a) (nmH b) = true
theorem putH_cons (h : GHead) (r : List GHead) (e : GEntry) : putH (h :: r) e = if ltNm h.Name e.Name then h :: putH r e else (if e.Gone then [] else [hdOf e]) ++ (if h.Name.toList == e.Name.toList then r else h :: r) := by
  unfold putH
  cases c : ltNm h.Name e.Name
  · have h1 : ixH e.Name (h :: r) = 0 := by unfold ixH; rw [c]; rfl
    have h2 : hitH e.Name (h :: r) = (h.Name.toList == e.Name.toList) := by unfold hitH; rw [h1]; rfl
    rw [h1, h2]
    cases h.Name.toList == e.Name.toList <;> simp
  · have h1 : ixH e.Name (h :: r) = ixH e.Name r + 1 := by rw [ixH, c]; rfl
    have h2 : hitH e.Name (h :: r) = hitH e.Name r := by unfold hitH; rw [h1]; rfl
    rw [h1, h2]
    cases hitH e.Name r <;> simp
theorem putH_mem : ∀ (hs : List GHead) (e : GEntry), Srt hs → ∀ x, x ∈ (putH hs e).map nmH ↔ (x ≠ e.Name.data.toList ∧ x ∈ hs.map nmH) ∨ (e.Gone = false ∧ x = e.Name.data.toList)
  | [], e, _, x => by
    unfold putH
    cases c : e.Gone <;> simp [hdOf, nmH, ixH]
  | h :: r, e, hs, x => by
    rw [putH_cons]
    have hs' := List.pairwise_cons.1 hs
    have ih := putH_mem r e hs'.2 x
    cases c1 : ltNm h.Name e.Name
    · simp only [Bool.false_eq_true, if_false]
      unfold ltNm at c1
      rw [tlx, tlx] at c1
      by_cases c2 : h.Name.data.toList = e.Name.data.toList
      · have c2' : (h.Name.toList == e.Name.toList) = true := by rw [tlx, tlx, c2]; simp
        rw [c2', if_pos rfl, List.map_append, List.mem_append]
        have hr : x ∈ r.map nmH → x ≠ e.Name.data.toList := fun hx he => by
          obtain ⟨y, hy, hyx⟩ := List.mem_map.1 hx
          have := hs'.1 y hy
          rw [hyx, he, ← c2] at this
          unfold nmH at this
          rw [bl_irr'] at this
          cases this
        have hh : x ∈ (h :: r).map nmH ↔ x = e.Name.data.toList ∨ x ∈ r.map nmH := by
          rw [List.map_cons, List.mem_cons]; unfold nmH; rw [c2]
        rw [hh]
        cases c : e.Gone
        · simp only [Bool.false_eq_true, if_false, List.map_cons, List.map_nil, List.mem_singleton]
          show x = e.Name.data.toList ∨ _ ↔ _
          constructor
          · rintro (h1 | h1)
            · exact .inr ⟨trivial, h1⟩
            · exact .inl ⟨hr h1, .inr h1⟩
          · rintro (⟨h1, h2 | h2⟩ | ⟨_, h1⟩)
            · exact absurd h2 h1
            · exact .inr h2
            · exact .inl h1
        · simp only [if_true, List.map_nil, List.not_mem_nil, false_or, Bool.true_eq_false, false_and, or_false]
          exact ⟨fun h1 => ⟨hr h1, .inr h1⟩, fun ⟨h1, h2⟩ => h2.resolve_left h1⟩
      · have c2' : (h.Name.toList == e.Name.toList) = false := by rw [tlx, tlx, beq_eq_false_iff_ne]; exact c2
        rw [c2']
        simp only [Bool.false_eq_true, if_false]
        rw [List.map_append, List.mem_append]
        have hlt := bl_tri _ _ c1 c2
        have hr : x ∈ (h :: r).map nmH → x ≠ e.Name.data.toList := fun hx he => by
          rw [List.map_cons, List.mem_cons] at hx
          rcases hx with hx | hx
          · exact c2 (by rw [← he, hx]; rfl)
          · obtain ⟨y, hy, hyx⟩ := List.mem_map.1 hx
            have h1 := hs'.1 y hy
            rw [hyx, he] at h1
            have h2 := bl_trans _ _ _ hlt h1
            rw [bl_irr'] at h2
            cases h2
        cases c : e.Gone
        · simp only [Bool.false_eq_true, if_false, List.map_cons, List.map_nil, List.mem_singleton]
          show x = e.Name.data.toList ∨ _ ↔ _
          constructor
          · rintro (h1 | h1)
            · exact .inr ⟨trivial, h1⟩
            · exact .inl ⟨hr (by rw [List.map_cons]; exact h1), h1⟩
          · rintro (⟨h1, h2⟩ | ⟨_, h1⟩)
            · exact .inr h2
            · exact .inl h1
        · simp only [if_true, List.map_nil, List.not_mem_nil, false_or, Bool.true_eq_false, false_and, or_false]
          exact ⟨fun h1 => ⟨hr h1, h1⟩, fun ⟨h1, h2⟩ => h2⟩
    · simp only [if_true]
      unfold ltNm at c1
      rw [tlx, tlx] at c1
      have hne : nmH h ≠ e.Name.data.toList := fun he => by
        unfold nmH at he; rw [he, bl_irr'] at c1; cases c1
      rw [List.map_cons, List.mem_cons, List.map_cons, List.mem_cons, ih]
      constructor
      · rintro (h1 | ⟨h1, h2⟩ | h1)
        · exact .inl ⟨by rw [h1]; exact hne, .inl h1⟩
        · exact .inl ⟨h1, .inr h2⟩
        · exact .inr h1
      · rintro (⟨h1, h2 | h2⟩ | h1)
        · exact .inl h2
        · exact .inr (.inl ⟨h1, h2⟩)
        · exact .inr (.inr h1)
theorem putH_srt : ∀ (hs : List GHead) (e : GEntry), Srt hs → Srt (putH hs e)
  | [], e, _ => by
    unfold putH Srt
    cases c : e.Gone <;> simp [ixH]
  | h :: r, e, hs => by
    rw [putH_cons]
    have hs' := List.pairwise_cons.1 hs
    have ih := putH_srt r e hs'.2
    cases c1 : ltNm h.Name e.Name
    · simp only [Bool.false_eq_true, if_false]
      unfold ltNm at c1
      rw [tlx, tlx] at c1
      by_cases c2 : h.Name.data.toList = e.Name.data.toList
      · have c2' : (h.Name.toList == e.Name.toList) = true := by rw [tlx, tlx, c2]; simp
        rw [c2', if_pos rfl]
        cases c : e.Gone
        · simp only [Bool.false_eq_true, if_false]
          refine List.pairwise_cons.2 ⟨fun y hy => ?_, hs'.2⟩
          have := hs'.1 y hy
          show Op.bytesLess e.Name.data.toList _ = true
          rw [← c2]; exact this
        · simp only [if_true, List.nil_append]; exact hs'.2
      · have c2' : (h.Name.toList == e.Name.toList) = false := by rw [tlx, tlx, beq_eq_false_iff_ne]; exact c2
        rw [c2']
        simp only [Bool.false_eq_true, if_false]
        have hlt := bl_tri _ _ c1 c2
        cases c : e.Gone
        · simp only [Bool.false_eq_true, if_false]
          refine List.pairwise_cons.2 ⟨fun y hy => ?_, hs⟩
          show Op.bytesLess e.Name.data.toList _ = true
          rcases List.mem_cons.1 hy with rfl | hy
          · exact hlt
          · exact bl_trans _ _ _ hlt (hs'.1 y hy)
        · simp only [if_true, List.nil_append]; exact hs
    · simp only [if_true]
      unfold ltNm at c1
      rw [tlx, tlx] at c1
      refine List.pairwise_cons.2 ⟨fun y hy => ?_, ih⟩
      have := (putH_mem r e hs'.2 (nmH y)).1 (List.mem_map.2 ⟨y, hy, rfl⟩)
      rcases this with ⟨_, h2⟩ | ⟨_, h2⟩
      · obtain ⟨z, hz, hzy⟩ := List.mem_map.1 h2
        rw [← hzy]; exact hs'.1 z hz
      · rw [h2]; exact c1
end Go.Ae.GA.B
namespace Go.Ae.GA.B
set_option linter.unusedSimpArgs false
set_option linter.unusedVariables false
def toEnt (e : GEntry) : Ent := ⟨e.Ver_Epoch, e.Ver_Seq, e.Prior_Epoch, e.Prior_Seq, e.Name, e.Gone, e.Size, e.Sum, e.Req_Client, e.Req_No⟩
structure Inv (ns : List N) (hs : List GHead) : Prop where
  nd : ns.Nodup
  srt : Srt hs
  mem : ∀ x, x ∈ ns ↔ x ∈ hs.map nmH
theorem Srt.nodup {hs : List GHead} (h : Srt hs) : (hs.map nmH).Nodup := by
  unfold List.Nodup
  rw [List.pairwise_map]
  refine h.imp fun {a b} hab he => ?_
  rw [he, bl_irr'] at hab
  cases hab
theorem Inv.len {ns : List N} {hs : List GHead} (h : Inv ns hs) : ns.length = hs.length := by
  have := ((List.perm_ext_iff_of_nodup h.nd h.srt.nodup).2 h.mem).length_eq
  simpa using this
theorem addN_mem (ns : List N) (x y : N) : y ∈ addN ns x ↔ y = x ∨ y ∈ ns := by
  unfold addN
  by_cases h : ns.contains x = true
  · rw [if_pos h]
    have hx : x ∈ ns := by simpa using h
    exact ⟨fun h => .inr h, fun h => h.elim (fun e => by rw [e]; exact hx) id⟩
  · rw [if_neg h, List.mem_append, List.mem_singleton]
    exact Or.comm
theorem addN_nd {ns : List N} (x : N) (h : ns.Nodup) : (addN ns x).Nodup := by
  unfold addN
  by_cases h1 : ns.contains x = true
  · rw [if_pos h1]; exact h
  · rw [if_neg h1]
    have hx : x ∉ ns := by simpa using h1
    exact List.nodup_append.2 ⟨h, by simp, fun a ha b hb => by
      rw [List.mem_singleton] at hb
      subst hb
      intro he
      subst he
      exact hx ha⟩
theorem delN_mem (ns : List N) (x y : N) : y ∈ delN ns x ↔ y ≠ x ∧ y ∈ ns := by
  unfold delN
  rw [List.mem_filter]
  simp only [bne_iff_ne, ne_eq]
  exact And.comm
theorem Inv.step {ns : List N} {hs : List GHead} (h : Inv ns hs) (e : GEntry) : Inv (stepN ns (toEnt e)) (putH hs e) where
  nd := by
    unfold stepN
    split
    · exact h.nd.filter _
    · exact addN_nd _ h.nd
  srt := putH_srt hs e h.srt
  mem := fun x => by
    rw [putH_mem hs e h.srt, ← h.mem]
    unfold stepN
    show x ∈ (if e.Gone = true then delN ns e.Name.data.toList else addN ns e.Name.data.toList) ↔ _
    cases c : e.Gone
    · simp only [Bool.false_eq_true, if_false, true_and]
      rw [addN_mem]
      constructor
      · rintro (h1 | h1)
        · exact .inr h1
        · by_cases h2 : x = e.Name.data.toList
          · exact .inr h2
          · exact .inl ⟨h2, h1⟩
      · rintro (⟨_, h1⟩ | h1)
        · exact .inr h1
        · exact .inl h1
    · simp only [if_true, Bool.true_eq_false, false_and, or_false]
      exact delN_mem ns _ x
theorem fold_addN : ∀ (l : List N) (acc : List N), acc.Nodup → (l.foldl addN acc).Nodup ∧ ∀ x, x ∈ l.foldl addN acc ↔ x ∈ acc ∨ x ∈ l
  | [], acc, h => ⟨h, fun x => by simp⟩
  | y :: l, acc, h => by
    obtain ⟨h1, h2⟩ := fold_addN l (addN acc y) (addN_nd y h)
    refine ⟨h1, fun x => ?_⟩
    rw [List.foldl_cons, h2, addN_mem, List.mem_cons]
    constructor
    · rintro ((h | h) | h)
      · exact .inr (.inl h)
      · exact .inl h
      · exact .inr (.inr h)
    · rintro (h | h | h)
      · exact .inl (.inr h)
      · exact .inl (.inl h)
      · exact .inr h
theorem inv_base {hs : List GHead} (h : Srt hs) : Inv (((hs.map (·.Name)).map (·.data.toList)).foldl addN []) hs := by
  obtain ⟨h1, h2⟩ := fold_addN ((hs.map (·.Name)).map (·.data.toList)) [] List.nodup_nil
  refine ⟨h1, h, fun x => ?_⟩
  rw [h2, List.map_map]
  simp only [List.not_mem_nil, false_or]
  exact Iff.rfl
/-- The entries one behind the other, with the heads. -/
def lgR : Int → Int → List GHead → List GEntry → Bool
  | _, _, _, [] => true
  | pe, ps, hs, e :: r => entB (toEnt e) && (decide (e.Prior_Epoch = pe ∧ e.Prior_Seq = ps) && (decide ((putH hs e).length ≤ 16) && lgR e.Ver_Epoch e.Ver_Seq (putH hs e) r))
theorem logR_eq : ∀ (es : List GEntry) (pe ps : Int) {ns : List N} {hs : List GHead}, Inv ns hs → logR pe ps ns (es.map toEnt) = lgR pe ps hs es
  | [], _, _, _, _, _ => rfl
  | e :: r, pe, ps, ns, hs, h => by
    have hi := h.step e
    rw [List.map_cons, logR, lgR, hi.len, logR_eq r _ _ hi]
    rfl
/-- The heads behind so many entries. -/
def hdI (hs : List GHead) (es : List GEntry) (i : Nat) : List GHead := (es.take i).foldl putH hs
theorem hdI_succ {hs : List GHead} {es : List GEntry} {i : Nat} (h : i < es.length) : hdI hs es (i + 1) = putH (hdI hs es i) es[i] := by
  unfold hdI
  rw [List.take_add_one, List.getElem?_eq_getElem h, Option.toList_some, List.foldl_append]
  rfl
theorem hdI_le (hs : List GHead) : ∀ (es : List GEntry) (i : Nat), (hdI hs es i).length ≤ hs.length + i
  | es, 0 => by simp [hdI]
  | es, i + 1 => by
    by_cases h : i < es.length
    · rw [hdI_succ h]
      have := putH_le (hdI hs es i) es[i]
      have := hdI_le hs es i
      omega
    · have : hdI hs es (i + 1) = hdI hs es i := by unfold hdI; rw [List.take_of_length_le (by omega), List.take_of_length_le (by omega)]
      rw [this]
      have := hdI_le hs es i
      omega
/-- The version ahead of an entry. -/
def prE (te : Int) (f : GEntry → Int) (es : List GEntry) : Nat → Int
  | 0 => te
  | i + 1 => match es[i]? with
    | some e => f e
    | none => te
def okE (te ts : Int) (hs : List GHead) (es : List GEntry) (i : Nat) : Bool := match es[i]? with
  | some e => entB (toEnt e) && (decide (e.Prior_Epoch = prE te (·.Ver_Epoch) es i ∧ e.Prior_Seq = prE ts (·.Ver_Seq) es i) && decide ((hdI hs es (i + 1)).length ≤ 16))
  | none => false
theorem okE_at {te ts : Int} {hs : List GHead} {es : List GEntry} {i : Nat} (h : i < es.length) : okE te ts hs es i = (entB (toEnt es[i]) && (decide (es[i].Prior_Epoch = prE te (·.Ver_Epoch) es i ∧ es[i].Prior_Seq = prE ts (·.Ver_Seq) es i) && decide ((hdI hs es (i + 1)).length ≤ 16))) := by
  unfold okE; rw [List.getElem?_eq_getElem h]
theorem okE_shift (te ts : Int) (hs : List GHead) (e : GEntry) (r : List GEntry) (i : Nat) : okE te ts hs (e :: r) (i + 1) = okE e.Ver_Epoch e.Ver_Seq (putH hs e) r i := by
  unfold okE
  rw [List.getElem?_cons_succ]
  have hh : hdI hs (e :: r) (i + 1 + 1) = hdI (putH hs e) r (i + 1) := by unfold hdI; rw [List.take_succ_cons]; rfl
  rw [hh]
  cases hr : r[i]? with
  | none => rfl
  | some x =>
    have hi : i < r.length := (List.getElem?_eq_some_iff.1 hr).1
    have p : ∀ (t t' : Int) (f : GEntry → Int), t' = f e → prE t f (e :: r) (i + 1) = prE t' f r i := fun t t' f ht => by
      cases i with
      | zero => simp [prE, ht]
      | succ j =>
        simp only [prE, List.getElem?_cons_succ]
        rw [List.getElem?_eq_getElem (show j < r.length by omega)]
    rw [p te e.Ver_Epoch (·.Ver_Epoch) rfl, p ts e.Ver_Seq (·.Ver_Seq) rfl]
theorem lgR_all : ∀ (es : List GEntry) (te ts : Int) (hs : List GHead), lgR te ts hs es = (List.range es.length).all (okE te ts hs es)
  | [], _, _, _ => rfl
  | e :: r, te, ts, hs => by
    rw [lgR, lgR_all r, List.length_cons, List.range_succ_eq_map, List.all_cons, List.all_map]
    have h0 : okE te ts hs (e :: r) 0 = (entB (toEnt e) && (decide (e.Prior_Epoch = te ∧ e.Prior_Seq = ts) && decide ((putH hs e).length ≤ 16))) := rfl
    have hc : (okE te ts hs (e :: r)) ∘ Nat.succ = okE e.Ver_Epoch e.Ver_Seq (putH hs e) r := funext fun i => okE_shift te ts hs e r i
    rw [h0, hc, Bool.and_assoc, Bool.and_assoc]
/-- The whole check, by heads. -/
def lgB (te ts : Int) (hs : List GHead) (es : List GEntry) : Bool := (List.range es.length).all (okE te ts hs es) && decide ((es.length : Int) ≤ 24)
theorem logB_eq {hs : List GHead} (h : Srt hs) (te ts : Int) (es : List GEntry) : logB te ts (hs.map (·.Name)) (es.map toEnt) = lgB te ts hs es := by
  unfold logB lgB
  rw [logR_eq es te ts (inv_base h), lgR_all, List.length_map]
  congr 1
  exact decide_eq_decide.2 (by omega)
end Go.Ae.GA.B
