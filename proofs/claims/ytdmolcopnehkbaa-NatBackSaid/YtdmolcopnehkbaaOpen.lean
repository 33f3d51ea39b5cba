/-
  How an argument of type []uint32 that came in reads as limbs.
-/
import Derived.Test.YtdmolcopnehkbaaRows
import Derived.Test.YtdmolcopnehkbaaW15
import Derived.ProofKit
import Derived.SizedLaws
import Derived.OpenShut
set_option autoImplicit false
namespace Go.Proofs.Ytdmolcopnehkbaa
open Go.ChangeShapes Go.WideShapes Go.ChangeAt Go.RowKit

theorem own : ownKnob Try.prog.godebug = none := by kernel_rfl
theorem laidOut : laidOutB Try.prog = true := by kernel_rfl
theorem cellsU : Try.prog.cellsOf 41 = 1 := by kernel_rfl
theorem bytesU : Try.prog.bytesOf 41 = 4 := by kernel_rfl

theorem wf_u32 {z : Int} (h : (Lit.int .u32 z).wf = true) : 0 ≤ z ∧ z ≤ 4294967295 := by
  simpa [Lit.wf, IntKind.min, IntKind.max, IntKind.signed, IntKind.bits] using h
theorem wf_u64 {z : Int} (h : (Lit.int .u64 z).wf = true) : 0 ≤ z ∧ z ≤ 18446744073709551615 := by
  simpa [Lit.wf, IntKind.min, IntKind.max, IntKind.signed, IntKind.bits] using h
theorem wf_u8 {z : Int} (h : (Lit.int .u8 z).wf = true) : 0 ≤ z ∧ z ≤ 255 := by
  simpa [Lit.wf, IntKind.min, IntKind.max, IntKind.signed, IntKind.bits] using h
theorem wf_i64 {z : Int} (h : (Lit.int .i64 z).wf = true) : -9223372036854775808 ≤ z ∧ z ≤ 9223372036854775807 := by
  simpa [Lit.wf, IntKind.min, IntKind.max, IntKind.signed, IntKind.bits] using h

/-- numbers of 32 bits as limbs -/
def limbs (zs : List Int) : List Nat := zs.map Int.toNat
theorem limbs_nth (zs : List Int) (i : Nat) (hi : i < zs.length) (h : ∀ n ∈ zs, (Lit.int .u32 n).wf = true) : ((nth (limbs zs) i : Nat) : Int) = zs.getD i 0 := by
  have h1 := (wf_u32 (h _ (List.getElem_mem hi))).1
  unfold nth limbs
  simp only [List.getD_eq_getElem?_getD, List.getElem?_map, List.getElem?_eq_getElem hi, Option.map_some, Option.getD_some]
  omega
theorem limbs_lim (zs : List Int) (h : ∀ n ∈ zs, (Lit.int .u32 n).wf = true) : Lim (limbs zs) := by
  intro x hx
  obtain ⟨z, hz, rfl⟩ := List.mem_map.1 hx
  have := wf_u32 (h z hz)
  omega

theorem open_limbs {H : Type} {enc : TypeId × Value → H} {W : World} {base j : Nat} {ts : List TypeId} {ds : List (DataW H)} {v : Value} {d : DataW H} {p : List MemPlace}
    (hsz : (DataW.weightsEach Try.prog ts ds).all (· ≤ reachBytes) = true) (hj : ts[j]? = some 22) (hd : ds[j]? = some d)
    (hval : Value.okWide Try.prog W .any base 22 v) (h : DataW.Trod enc Try.prog W 0 (fun _ => true) true 22 v d p) : ∃ A, SL W v A := by
  obtain ⟨a0, len, cap, rfl⟩ := okWide_slice Try.underlying22 hval
  obtain ⟨fuel, hf⟩ := h
  rcases open_ints Try.underlying22 Try.underlying41 cellsU hf with ⟨hcs, hx⟩ | ⟨a, len', cap', zs, hcs, _, hl, hm, hz, hx, hcell, hwz⟩
  · simp [Value.cells] at hcs
    obtain ⟨rfl, rfl, rfl⟩ := hcs
    exact ⟨[], SL.nil W⟩
  · simp [Value.cells] at hcs
    obtain ⟨rfl, rfl, rfl⟩ := hcs
    simp only [Prod.mk.injEq] at hx
    obtain ⟨rfl, rfl⟩ := hx
    simp only [if_true] at hz
    have hreach : len * 4 ≤ 140737488351232 := by
      have := sized_slice hsz hj hd Try.underlying22
      rw [bytesU] at this
      simp only [lits, List.length_map, List.length_take, List.length_drop, reachBytes] at this
      omega
    have hw' : ∀ n ∈ zs.take len, (Lit.int .u32 n).wf = true := fun n hn => hwz n (List.mem_of_mem_take hn)
    refine ⟨limbs (zs.take len), some a, len, cap, rfl, ?_, hl, by simpa [maxLen] using hm, by omega, limbs_lim _ hw', by simp, fun i hi => ?_⟩
    · simp [limbs]; omega
    · rw [adr_some, hcell i (by omega), limbs_nth _ _ (by simp; omega) hw']
      simp [List.getD_eq_getElem?_getD, hi]
#print axioms open_limbs
end Go.Proofs.Ytdmolcopnehkbaa
