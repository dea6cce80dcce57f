/- Any rows of the code's matrix have an inverse: a certificate for each choice, looked at by the kernel. -/
import Derived.Test.YtppcbpmnfahnkaaM2M7
namespace Go.Ae.M2
set_option linter.unusedSimpArgs false
set_option linter.unusedVariables false
def G (k p j : Nat) : Nat := if p < k then (if p = j then 1 else 0) else entry k (p - k) j
def subs : Nat → List (List Nat)
  | 0 => [[]]
  | n + 1 => subs n ++ (subs n).map fun s => s ++ [n]
theorem subs_mono {n : Nat} : ∀ m, n ≤ m → ∀ s ∈ subs n, s ∈ subs m
  | 0, h, s, hs => by rw [show n = 0 by omega] at hs; exact hs
  | m + 1, h, s, hs => by
    rcases Nat.eq_or_lt_of_le h with rfl | h2
    · exact hs
    · exact List.mem_append.2 (.inl (subs_mono m (by omega) s hs))
theorem plc_subs (l : List UInt8) (m n : Nat) : ∀ i, plc l m n i ∈ subs i
  | 0 => by simp [plc, subs]
  | i + 1 => by
    have := plc_subs l m n i
    unfold plc subs
    split
    · exact List.mem_append.2 (.inr (List.mem_map.2 ⟨_, this, rfl⟩))
    · exact List.mem_append.2 (.inl this)
theorem subs_lt {s : List Nat} : ∀ n, s ∈ subs n → ∀ p ∈ s, p < n
  | 0, h, p, hp => by simp [subs] at h; subst h; simp at hp
  | n + 1, h, p, hp => by
    unfold subs at h
    rcases List.mem_append.1 h with h | h
    · have := subs_lt n h p hp; omega
    · obtain ⟨t, ht, rfl⟩ := List.mem_map.1 h
      rcases List.mem_append.1 hp with hp | hp
      · have := subs_lt n ht p hp; omega
      · simp at hp; omega
/-- A row less a multiple of another one. -/
def less (i : Nat) (pv r : List Nat) : List Nat := if r.getD i 0 = 0 then r else List.zipWith (fun a b => a ^^^ gm (r.getD i 0) b) r pv
def pickR (i : Nat) : List (List Nat) → Option (List Nat × List (List Nat))
  | [] => none
  | r :: t => if r.getD i 0 = 0 then (match pickR i t with | some (p, u) => some (p, r :: u) | none => none) else some (r, t)
def gauss : Nat → Nat → List (List Nat) → List (List Nat) → List (List Nat)
  | 0, _, dn, _ => dn
  | n + 1, i, dn, rest => match pickR i rest with
    | none => dn
    | some (p, u) => gauss n (i + 1) (dn.map (less i (p.map (gm (inv (p.getD i 0))))) ++ [p.map (gm (inv (p.getD i 0)))]) (u.map (less i (p.map (gm (inv (p.getD i 0))))))
def certR (k : Nat) (ps : List Nat) : List (List Nat) :=
  (gauss k 0 [] ((List.range k).map fun i => ((List.range k).map fun j => G k (ps.getD i 0) j) ++ ((List.range k).map fun j => if i = j then 1 else 0))).map (List.drop k)
def lsum (nr : List Nat) (k : Nat) (ps : List Nat) (j : Nat) : Nat → Nat
  | 0 => 0
  | i + 1 => lsum nr k ps j i ^^^ gm (nr.getD i 0) (G k (ps.getD i 0) j)
def chk (k : Nat) (ps : List Nat) (N : List (List Nat)) : Bool :=
  (List.range k).all fun a => ((N.getD a []).all fun x => decide (x < 256)) && (List.range k).all fun j => lsum (N.getD a []) k ps j k == (if a = j then 1 else 0)
theorem all_chk : ((List.range 7).all fun k => (subs 8).all fun ps => ps.length != k || chk k ps (certR k ps)) = true := by decide +kernel
end Go.Ae.M2
namespace Go.Ae.M2
set_option linter.unusedSimpArgs false
set_option linter.unusedVariables false
def gN (k m : Nat) : List Nat := (gz k m 0).map Int.toNat
theorem uz_val {n i : Nat} {x : Int} (h : x ∈ uz n i) : x = 0 ∨ x = 1 := by
  simp only [uz, List.mem_map] at h
  obtain ⟨a, _, rfl⟩ := h
  split
  · exact .inr rfl
  · exact .inl rfl
theorem gz_val {k m : Nat} (hk : k + m ≤ 8) {x : Int} (h : x ∈ gz k m 0) : ∃ n : Nat, x = n ∧ n < 256 := by
  simp only [gz, List.mem_append, List.mem_flatMap, List.mem_map, List.mem_range] at h
  rcases h with (h | ⟨a, ha, b, hb, rfl⟩) | ⟨b, hb, _⟩
  · rcases uz_val h with rfl | rfl
    · exact ⟨0, rfl, by decide⟩
    · exact ⟨1, rfl, by decide⟩
  · exact ⟨_, rfl, gm_lt (by omega)⟩
  · omega
theorem castL_toNat : ∀ {l : List Int}, (∀ x ∈ l, ∃ n : Nat, x = n ∧ n < 256) → castL (l.map Int.toNat) = l
  | [], _ => rfl
  | x :: l, h => by
    obtain ⟨n, rfl, _⟩ := h x List.mem_cons_self
    have := castL_toNat (l := l) fun y hy => h y (List.mem_cons_of_mem _ hy)
    simp only [castL, List.map_map] at this
    simp [castL, this]
theorem gN_cast {k m : Nat} (hk : k + m ≤ 8) : castL (gN k m) = gz k m 0 := castL_toNat fun x hx => gz_val hk hx
theorem gN_lt {k m : Nat} (hk : k + m ≤ 8) : ∀ x ∈ gN k m, x < 256 := by
  intro x hx
  simp only [gN, List.mem_map] at hx
  obtain ⟨y, hy, rfl⟩ := hx
  obtain ⟨n, rfl, hn⟩ := gz_val hk hy
  simpa using hn
theorem gN_len {k m : Nat} : (gN k m).length = (k + m) * k := by
  rw [gN, List.length_map, gz_len, Nat.add_mul]; omega

theorem gN_G : ∀ k, k < 9 → ∀ m, m < 9 → k + m ≤ 8 → gN k m = (List.range ((k + m) * k)).map fun x => G k (x / k) (x % k) := by decide +kernel
end Go.Ae.M2
