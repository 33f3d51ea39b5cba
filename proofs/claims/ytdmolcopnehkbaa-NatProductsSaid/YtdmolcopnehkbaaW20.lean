/-
  DivMod, whole.
-/
import Derived.Test.YtdmolcopnehkbaaW19
set_option autoImplicit false
namespace Go.Proofs.Ytdmolcopnehkbaa
open Go.RowKit

theorem div_rn (va vc : Value) (a c : Nat) (w : World) (hA : RN w va a) (hC : RN w vc c) (k : Nat) (hk : a < B k) (hk' : k ≤ 1048576) : Calls Try.prog 20 #[va, vc] w (DivPost a c w) := by
  obtain ⟨C, hC', tC, rfl⟩ := hC
  by_cases h : C.length ≤ 1 ∨ a < val C
  · exact div_short va vc a C w hA hC' tC h
  · obtain ⟨A, hA', tA, rfl⟩ := hA
    have hl := RN.len_le tA hk
    exact div_long va vc A C w hA' hC' tA tC (by omega) (by omega) (by omega)
/-- the same, the divisor not 0 -/
theorem div_pos (va vc : Value) (a c : Nat) (w : World) (hA : RN w va a) (hC : RN w vc c) (k : Nat) (hk : a < B k) (hk' : k ≤ 1048576) (hc : c ≠ 0) :
    Calls Try.prog 20 #[va, vc] w (fun e w' => ∃ u v, e = .returned (.tuple #[u, v, .bool true]) ∧ RN w' u (a / c) ∧ RN w' v (a % c) ∧ Below w.heap.size w w') := by
  refine (div_rn va vc a c w hA hC k hk hk').mono ?_
  rintro e w' ⟨u, v, rfl, h1, h2, h3⟩
  rw [if_neg hc] at h2
  exact ⟨u, v, by rw [decide_eq_true hc], h1, h2, h3⟩
theorem div_nil (va vc : Value) (a : Nat) (w : World) (hA : RN w va a) (hC : RN w vc 0) (k : Nat) (hk : a < B k) (hk' : k ≤ 1048576) :
    Calls Try.prog 20 #[va, vc] w (fun e w' => ∃ u v, e = .returned (.tuple #[u, v, .bool false]) ∧ Below w.heap.size w w') := by
  refine (div_rn va vc a 0 w hA hC k hk hk').mono ?_
  rintro e w' ⟨u, v, rfl, h1, h2, h3⟩
  exact ⟨u, v, rfl, h3⟩
#print axioms div_rn
end Go.Proofs.Ytdmolcopnehkbaa
