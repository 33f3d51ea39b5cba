/-
  Walks: trim, Trim, Right.
-/
import Derived.Test.YtdmolcopnehkbaaRep
set_option autoImplicit false
namespace Go.Proofs.Ytdmolcopnehkbaa
open Go.RowKit

theorem addr_map_zero (ao : Option Addr) : ao.map (fun x => x.add 0) = ao := by
  cases ao <;> simp [Addr.add]

theorem SlOk.take {w : World} {ao : Option Addr} {n cap k : Nat} {L : List Nat} (h : SlOk w ao n cap L) (hk : k ≤ n) {c : Nat} (hc : k ≤ c) (hc' : c ≤ cap) : SlOk w ao k c (L.take k) :=
  ⟨by have := h.len; simp; omega, hc, by have := h.max; omega, by have := h.small; omega, h.lim.take k, fun e => by have := h.nil e; omega,
   fun i hi => by rw [nth_take hi]; exact h.cell i (by omega)⟩

theorem beq_cast_true {x : Nat} (h : ((x : Int) == 0) = true) : x = 0 := by simpa using h
theorem beq_cast_false {x : Nat} (h : ((x : Int) == 0) = false) : x ≠ 0 := by simpa using h

/-- what a call that leaves the world alone hands back: limbs -/
def SLpost (L : List Nat) (w : World) (e : Ending) (w' : World) : Prop := ∃ u, e = .returned u ∧ SL w u L ∧ Tight u ∧ w = w'

theorem trim_any (v : Value) (L : List Nat) (w : World) (h : SL w v L) : Calls Try.prog 39 #[v] w (SLpost (strip L) w) := by
  obtain ⟨ao, n, cap, rfl, h⟩ := h
  have hle := h.le
  have hmax := h.max
  have HS := Lib.hid h
  have hmz := addr_map_zero ao
  have hlen := h.len
  clear h
  go_enter Try.func39, Try.ntmps39
  go_wp2
  go_loop [0] (fun s => ∃ k : Nat, k ≤ n ∧ Hid (slen L k = slen L n) ∧ s = .slice ao k cap) (fun s => match s with | .slice _ k _ => k | _ => 0)
  case atStart => exact ⟨n, Nat.le_refl _, rfl, rfl⟩
  case round =>
    obtain ⟨k, hk, hsl, rfl⟩ := hrel
    cases k with
    | zero =>
      go_wp2
      go_ret
      refine ⟨_, rfl, ⟨ao, 0, 0, rfl, ?_⟩, ⟨_, _, rfl⟩, rfl⟩
      unfold strip
      rw [hlen, ← hsl.out]
      exact HS.out.take (Nat.zero_le _) (Nat.le_refl _) (Nat.zero_le _)
    | succ j =>
      have hix := fun w => run_ix w (ao := ao) (cap := cap) (show j < j + 1 by omega) (fun e => by have := HS.out.nil' e; omega)
      have hcell := HS.out.cell j (by omega)
      have hnl := nth_lt HS.out.lim j
      go_wp2
      · have h0 := beq_cast_true (by assumption)
        refine ⟨⟨j, by omega, ?_, rfl⟩, by simp⟩
        have h1 := hsl.out
        simp only [slen, h0, if_true] at h1
        exact h1
      · have h0 := beq_cast_false (by assumption)
        go_ret
        refine ⟨_, rfl, ⟨ao, j + 1, j + 1, rfl, ?_⟩, ⟨_, _, rfl⟩, rfl⟩
        unfold strip
        have h1 := hsl.out
        simp only [slen, h0, if_false] at h1
        rw [hlen, ← h1]
        exact HS.out.take hk (Nat.le_refl _) (by omega)
#print axioms trim_any
end Go.Proofs.Ytdmolcopnehkbaa
