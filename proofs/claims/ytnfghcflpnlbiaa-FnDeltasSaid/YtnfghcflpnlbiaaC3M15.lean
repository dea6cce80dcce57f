/- The law FnStripes. -/
import Derived.Test.YtnfghcflpnlbiaaC3M12
namespace Go.Ae.C3
set_option linter.unusedSimpArgs false
set_option linter.unusedVariables false
theorem fitUw : ∀ {xs : List (List AV)}, (∀ r ∈ xs, FitsAll [.int .u8] r) → ∃ l : List UInt8, xs = rws encU l
  | [], _ => ⟨[], rfl⟩
  | r :: xs, h => by
    have h0 := h r List.mem_cons_self
    obtain ⟨_, _, rfl, h1, h0⟩ := h0.cons_inv
    obtain rfl := h0.nil_inv
    obtain ⟨v0, rfl, w0⟩ := h1.int_inv
    simp [Lit.wf, IntKind.min, IntKind.max, IntKind.signed, IntKind.bits] at w0
    obtain ⟨ws, rfl⟩ := fitUw fun x hx => h x (List.mem_cons_of_mem _ hx)
    refine ⟨UInt8.ofNat v0.toNat :: ws, ?_⟩
    have hv : ((UInt8.ofNat v0.toNat).toNat : Int) = v0 := by
      rw [UInt8.toNat_ofNat_of_lt' (by show v0.toNat < 256; omega)]; omega
    rw [rws_cons, encU, hv]
end Go.Ae.C3
