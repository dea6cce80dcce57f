/- Rows of typed elements; loops over them; marks; sizes. Plain laws for the maths texts. -/
import Derived.Test.YtgmfljabhcamlaaAeWp
namespace Go.Ae
set_option linter.unusedSimpArgs false
set_option linter.unusedVariables false
/-- So many temporaries, some of them known. -/
def tm (n : Nat) (l : List (Nat × AV)) : List AV := l.foldl (fun a p => a.set p.1 p.2) (List.replicate n .undef)
section
variable {α : Type} (enc : α → List AV)
def rws (l : List α) : List (List AV) := l.map enc
@[simp] theorem rws_len (l : List α) : (rws enc l).length = l.length := by simp [rws]
@[simp] theorem rws_nil : rws enc [] = [] := rfl
theorem rws_one (x : α) : rws enc [x] = [enc x] := rfl
theorem rws_cons (x : α) (l : List α) : rws enc (x :: l) = enc x :: rws enc l := rfl
theorem rws_app (l k : List α) : rws enc (l ++ k) = rws enc l ++ rws enc k := by simp [rws]
@[simp] theorem rws_take (l : List α) (n : Nat) : (rws enc l).take n = rws enc (l.take n) := by simp [rws, List.map_take]
@[simp] theorem rws_drop (l : List α) (n : Nat) : (rws enc l).drop n = rws enc (l.drop n) := by simp [rws, List.map_drop]
theorem rws_at {l : List α} {i : Nat} (h : i < l.length) (h' : i < (rws enc l).length) : (rws enc l)[i]'h' = enc l[i] := by simp [rws]
@[simp] theorem rws_get (l : List α) (i : Nat) (h : i < (rws enc l).length) : (rws enc l)[i]'h = enc (l[i]'(by simpa using h)) := by simp [rws]
theorem rws_get? (l : List α) (i : Nat) : (rws enc l)[i]? = (l[i]?).map enc := by simp [rws]
theorem rws_set (l : List α) (i : Nat) (x : α) : (rws enc l).set i (enc x) = rws enc (l.set i x) := by simp [rws, List.map_set]
theorem rws_all {sz : Nat} (h : ∀ x, (enc x).length = sz) (l : List α) : ((rws enc l).all fun r => r.length == sz) = true := by simp [rws, h]
theorem rws_takeLen (l : List α) : (rws enc l).take l.length = rws enc l := by simp
end
theorem idx_succ' {i n : Nat} (h : i < n) (hn : n ≤ 4611686018427387904) : IntKind.wrap .i64 ((i : Int) + 1) = ((i + 1 : Nat) : Int) := by rw [wrap64 ⟨by omega, by omega⟩]; omega
/-- The first i copied, noughts behind. -/
def cpy {α : Type} (z : α) (ws : List α) (i : Nat) : List α := ws.take i ++ List.replicate (ws.length - i) z
section
variable {α : Type} {z : α} {ws : List α} {i : Nat}
theorem cpy_len (h : i ≤ ws.length) : (cpy z ws i).length = ws.length := by simp [cpy]; omega
theorem cpy_set (h : i < ws.length) : (cpy z ws i).set i ws[i] = cpy z ws (i + 1) := by
  unfold cpy
  have hl : (ws.take i).length = i := by simp; omega
  rw [List.set_append_right i _ (by omega), hl, Nat.sub_self]
  obtain ⟨m, hm⟩ : ∃ m, ws.length - i = m + 1 := ⟨ws.length - i - 1, by omega⟩
  rw [hm, show ws.length - (i + 1) = m by omega, List.replicate_succ, List.set_cons_zero, List.take_succ_eq_append_getElem h]
  simp only [List.append_assoc, List.singleton_append]
theorem cpy_zero : cpy z ws 0 = List.replicate ws.length z := by simp [cpy]
theorem cpy_all : cpy z ws ws.length = ws := by simp [cpy]
theorem rws_rep {enc : α → List AV} (n : Nat) : rws enc (List.replicate n z) = List.replicate n (enc z) := by simp [rws]
theorem rws_cpy {enc : α → List AV} : rws enc (cpy z ws 0) = List.replicate ws.length (enc z) := by rw [cpy_zero, rws_rep]
/-- The first i told anew. -/
def mix (f : Nat → α) (ws : List α) (i : Nat) : List α := (List.range i).map f ++ ws.drop i
variable {f : Nat → α}
theorem mix_len (h : i ≤ ws.length) : (mix f ws i).length = ws.length := by simp [mix]; omega
theorem mix_at (h : i < ws.length) (h' : i < (mix f ws i).length) : (mix f ws i)[i] = ws[i] := by simp [mix]
theorem mix_set (h : i < ws.length) : (mix f ws i).set i (f i) = mix f ws (i + 1) := by
  have hm : ((List.range i).map f).length = i := by simp
  unfold mix
  rw [List.set_append_right i _ (by omega), hm, Nat.sub_self, List.drop_eq_getElem_cons h, List.set_cons_zero]
  simp [List.range_succ]
theorem mix_zero : mix f ws 0 = ws := by simp [mix]
theorem mix_all : mix f ws ws.length = (List.range ws.length).map f := by simp [mix]
end
theorem set_set_same (s : Nat) (a b : Option Blk) : ∀ h : Heap, (h.set s a).set s b = h.set s b
  | [] => by simp [Heap.set]
  | (t, c) :: r => by
    simp only [Heap.set]
    by_cases h1 : s = t
    · rw [if_pos h1, if_pos h1]; simp [Heap.set]
    · rw [if_neg h1, if_neg h1]
      by_cases h2 : s < t
      · rw [if_pos h2, if_pos h2]; simp [Heap.set]
      · rw [if_neg h2, if_neg h2]; simp only [Heap.set]; rw [if_neg h1, if_neg h2, set_set_same]
/-- The heap when the block has been told anew i times. -/
def hp (l : Heap) (S : Nat) (b : Nat → Blk) (i : Nat) : Heap := if i = 0 then l else l.set S (some (b i))
theorem hp_zero {l : Heap} {S : Nat} {b : Nat → Blk} : hp l S b 0 = l := by simp [hp]
theorem hp_get {l : Heap} {S : Nat} {b : Nat → Blk} (h : l.get S = some (some (b 0))) (i : Nat) : (hp l S b i).get S = some (some (b i)) := by
  unfold hp
  split
  · rename_i h0; subst h0; exact h
  · rw [get_set, if_pos rfl]
theorem hp_set {l : Heap} {S : Nat} {b : Nat → Blk} (i : Nat) : (hp l S b i).set S (some (b (i + 1))) = hp l S b (i + 1) := by
  unfold hp
  split
  · simp
  · rw [set_set_same]; simp
theorem hp_all {l : Heap} {S : Nat} {b : Nat → Blk} {n : Nat} (h : l.set S (some (b 0)) = l) : hp l S b n = l.set S (some (b n)) := by
  unfold hp
  split
  · rename_i h0; subst h0; exact h.symm
  · rfl
theorem hp_ne {l : Heap} {S T : Nat} {b : Nat → Blk} (h : T ≠ S) (i : Nat) : (hp l S b i).get T = l.get T := by
  unfold hp
  split
  · rfl
  · rw [get_set, if_neg h]
/-! #### the callers' memory -/
@[simp] theorem heap_zero (ts : List AV) (l : Heap) (e : List Heap) : St.heap ⟨ts, l, e⟩ 0 = l := rfl
/-- The callers' heap of a level. -/
def hat (e : List Heap) (n : Nat) : Heap := e.getD n []
theorem blk_succ (ts : List AV) (l : Heap) (e : List Heap) (n s : Nat) : St.blk ⟨ts, l, e⟩ (n + 1) s = (match (hat e n).get s with | some (some b) => some b | _ => none) := rfl
theorem heap_succ (ts : List AV) (l : Heap) (e : List Heap) (n : Nat) : St.heap ⟨ts, l, e⟩ (n + 1) = hat e n := rfl
theorem put_succ (ts : List AV) (l : Heap) (e : List Heap) (n s : Nat) (b : Option Blk) : St.put ⟨ts, l, e⟩ (n + 1) s b = ⟨ts, l, e.modify n fun h => h.set s b⟩ := rfl
theorem hat_modify {e : List Heap} {n : Nat} (h : n < e.length) (f : Heap → Heap) : hat (e.modify n f) n = f (hat e n) := by
  unfold hat
  rw [List.getD_eq_getElem?_getD, List.getElem?_modify_eq, List.getD_eq_getElem?_getD, List.getElem?_eq_getElem h]; rfl
@[simp] theorem hat_zero (h : Heap) (e : List Heap) : hat (h :: e) 0 = h := rfl
@[simp] theorem hat_cons (h : Heap) (e : List Heap) (n : Nat) : hat (h :: e) (n + 1) = hat e n := rfl
theorem modify_modify' {e : List Heap} {n : Nat} (f g : Heap → Heap) : (e.modify n f).modify n g = e.modify n fun h => g (f h) := by
  rw [List.modify_modify_eq]; rfl
theorem modify_id' {e : List Heap} {n : Nat} : (e.modify n fun h => h) = e := by exact List.modify_id n e
@[simp] theorem bears_nobox (v sz : Nat) (fl : Bool) (el : List (List AV)) : Blk.bears ⟨v, sz, false, fl, el⟩ = false := rfl
/-! #### what is left behind sizes -/
def szV (l : Int) (w : Nat) : Int := if (w : Int) ≤ l then l - w else -1
theorem szV_zero {l : Int} (h : 0 ≤ l) : szV l 0 = l := by unfold szV; rw [if_pos (by omega)]; omega
theorem szV_pos {l : Int} {w : Nat} (h : decide (szV l w < 0) = false) (hl : 0 ≤ l) : (w : Int) ≤ l ∧ szV l w = l - w := by
  unfold szV at h ⊢
  by_cases hc : (w : Int) ≤ l
  · rw [if_pos hc]; exact ⟨hc, rfl⟩
  · rw [if_neg hc] at h; simp at h
theorem szV_neg {l : Int} {w : Nat} (h : decide (szV l w < 0) = true) (hl : 0 ≤ l) : l < w ∧ szV l w = -1 := by
  unfold szV at h ⊢
  by_cases hc : (w : Int) ≤ l
  · rw [if_pos hc] at h; simp at h; omega
  · rw [if_neg hc]; exact ⟨by omega, rfl⟩
theorem szV_le {l : Int} {w : Nat} (h : (w : Int) ≤ l) : szV l w = l - w := by unfold szV; rw [if_pos h]
theorem szV_gt {l : Int} {w : Nat} (h : l < w) : szV l w = -1 := by unfold szV; rw [if_neg (by omega)]
/-! #### marks -/
def dig (n : Nat) : ByteArray := ⟨#[UInt8.ofNat (48 + n % 10)]⟩
def mdig (n : Nat) (t : ByteArray) : ByteArray := if h : n = 0 then t else mdig (n / 10) (dig n ++ t)
termination_by n
decreasing_by omega
def mtext (c : Int) : ByteArray := ⟨#[109]⟩ ++ mdig c.toNat ByteArray.empty
def encI (n : Int) : List AV := [.int .i64 n]
def encT (s : ByteArray) : List AV := [.str s]
def mkI (c : Int) (i : Nat) : Int := c + i
def mkT (c : Int) (i : Nat) : ByteArray := mtext (c + i)
def marks {α : Type} (mk : Int → Nat → α) (c : Int) (n : Nat) : List α := (List.range n).map (mk c)
@[simp] theorem marks_len {α : Type} (mk : Int → Nat → α) (c : Int) (n : Nat) : (marks mk c n).length = n := by simp [marks]
theorem marks_at {α : Type} {mk : Int → Nat → α} {c : Int} {n i : Nat} (h : i < (marks mk c n).length) : (marks mk c n)[i] = mk c i := by simp [marks]
/-- A row of elements in a block. -/
def mblk {α : Type} (enc : α → List AV) (sz : Nat) (mk : Int → Nat → α) (c : Int) (ws : List α) (i : Nat) : Blk := ⟨0, sz, false, true, rws enc (mix (mk c) ws i)⟩
theorem mblk_zero {α : Type} (enc : α → List AV) (sz : Nat) (mk : Int → Nat → α) (c : Int) (ws : List α) : mblk enc sz mk c ws 0 = ⟨0, sz, false, true, rws enc ws⟩ := by rw [mblk, mix_zero]
theorem hpm_all {α : Type} {enc : α → List AV} {sz : Nat} {mk : Int → Nat → α} {l : Heap} {S : Nat} {c : Int} {ws : List α} (h : l.set S (some ⟨0, sz, false, true, rws enc ws⟩) = l) :
    hp l S (mblk enc sz mk c ws) ws.length = l.set S (some ⟨0, sz, false, true, rws enc (marks mk c ws.length)⟩) := by
  rw [hp_all (by rw [mblk_zero]; exact h), mblk, mix_all]; rfl
def wsum {α : Type} (w : α → Nat) (l : List α) : Nat := (l.map w).sum
theorem wsum_drop {α : Type} {w : α → Nat} {l : List α} {i : Nat} (h : i < l.length) : wsum w (l.drop i) = w l[i] + wsum w (l.drop (i + 1)) := by
  unfold wsum; rw [List.drop_eq_getElem_cons h, List.map_cons, List.sum_cons]
theorem wsum_all {α : Type} {w : α → Nat} {l : List α} : wsum w (l.drop l.length) = 0 := by simp [wsum]
theorem szV_step {l : Int} {a b : Nat} (h : (a : Int) ≤ l) : szV (l - a) b = szV l (a + b) := by
  unfold szV; split <;> split <;> omega
theorem szV_stop {l : Int} {a b : Nat} (h : l < a) : szV l (a + b) = -1 := by
  unfold szV; rw [if_neg (by omega)]
def inB (a b c : Int) : Bool := decide (b ≤ a) && decide (a ≤ c)
end Go.Ae
