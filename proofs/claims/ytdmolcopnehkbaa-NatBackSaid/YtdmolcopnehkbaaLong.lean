/-
  Plain arithmetic of a quotient digit by digit. No program in sight.
-/
import Derived.Test.YtdmolcopnehkbaaW16
set_option autoImplicit false
namespace Go.Proofs.Ytdmolcopnehkbaa

/-- a limb shifted until its top bit is set -/
theorem norm_bits (x : Nat) (h0 : x ≠ 0) (h : x < 4294967296) : 32 - blen x ≤ 31 ∧ 2147483648 ≤ x * 2 ^ (32 - blen x) ∧ (x + 1) * 2 ^ (32 - blen x) ≤ 4294967296 := by
  obtain ⟨h1, h2, h3⟩ := blen_spec x h0 (by omega)
  have h4 := blen_le x 32 (by omega) (by omega)
  refine ⟨by omega, ?_, ?_⟩
  · have e : 2 ^ (blen x - 1) * 2 ^ (32 - blen x) = 2147483648 := by rw [← Nat.pow_add, show blen x - 1 + (32 - blen x) = 31 by omega]
    rw [← e]; exact Nat.mul_le_mul_right _ h1
  · have e : 2 ^ blen x * 2 ^ (32 - blen x) = 4294967296 := by rw [← Nat.pow_add, show blen x + (32 - blen x) = 32 by omega]
    rw [← e]; exact Nat.mul_le_mul_right _ h2

/-- the divisor, shifted: as many limbs, and the top bit set -/
theorem norm_top {C V : List Nat} {i p : Nat} (lC : Lim C) (hC : C.length = i + 1) (lV : Lim V) (tV : Top V) (hv : val V = val C * p) (h1 : 2147483648 ≤ nth C i * p) (h2 : (nth C i + 1) * p ≤ 4294967296) :
    V.length = i + 1 ∧ 2147483648 ≤ nth V i := by
  have hlo := val_lo hC
  have hhi := val_hi lC hC
  have hB := B_pos i
  have e1 : nth C i * B i * p = nth C i * p * B i := by rw [Nat.mul_right_comm]
  have e2 : (nth C i + 1) * B i * p = (nth C i + 1) * p * B i := by rw [Nat.mul_right_comm]
  have lo : 2147483648 * B i ≤ val V := by
    rw [hv]
    have := Nat.mul_le_mul_right p hlo
    have := Nat.mul_le_mul_right (B i) h1
    omega
  have hi : val V < 4294967296 * B i := by
    rw [hv]
    have hp : 0 < p := Nat.pos_of_ne_zero (by intro e; subst e; omega)
    have := Nat.mul_lt_mul_of_pos_right hhi hp
    have := Nat.mul_le_mul_right (B i) h2
    omega
  have hne : V ≠ [] := by intro e; subst e; simp [val] at lo; omega
  have hl : V.length = i + 1 := by
    have h3 := le_val_of_top tV hne
    have h4 := val_lt lV
    have h5 : V.length - 1 < i + 1 := by
      apply Nat.lt_of_not_le
      intro h6
      have := B_mono h6
      rw [B_succ] at this
      omega
    have h6 : i < V.length := by
      apply Nat.lt_of_not_le
      intro h6
      have := B_mono h6
      omega
    omega
  refine ⟨hl, ?_⟩
  have h7 := val_hi lV hl
  have h8 : 2147483648 * B i < (nth V i + 1) * B i := Nat.lt_of_le_of_lt lo h7
  have := Nat.lt_of_mul_lt_mul_right h8
  omega

/-- the window at place j holds all that is left above it -/
theorem window {M V : List Nat} {K m j : Nat} (hM : M.length = K + m) (lV : Lim V) (hV : V.length = m) (hj : j < K) (h : val M < B (j + 1) * val V) :
    val ((M.drop j).take (m + 1)) < 4294967296 * val V ∧ val (M.drop (j + m + 1)) = 0 ∧ val M = val (M.take j) + B j * val ((M.drop j).take (m + 1)) := by
  have h1 := val_split M j (by omega)
  have h2 := val_split (M.drop j) (m + 1) (by simp; omega)
  rw [List.drop_drop, show j + (m + 1) = j + m + 1 by omega] at h2
  have h3 : B j * val (M.drop j) < B j * (4294967296 * val V) := by
    have e : B (j + 1) * val V = B j * (4294967296 * val V) := by rw [B_succ]; rw [Nat.mul_comm 4294967296, Nat.mul_assoc]
    omega
  have h4 := Nat.lt_of_mul_lt_mul_left h3
  have h5 := val_lt lV
  rw [hV] at h5
  have h6 : B (m + 1) = 4294967296 * B m := B_succ m
  have h7 : val (M.drop (j + m + 1)) = 0 := by
    cases hd : val (M.drop (j + m + 1)) with
    | zero => rfl
    | succ d =>
      rw [hd] at h2
      have : B (m + 1) * 1 ≤ B (m + 1) * (d + 1) := Nat.mul_le_mul_left _ (by omega)
      omega
  rw [h7, Nat.mul_zero, Nat.add_zero] at h2
  rw [h2] at h1 h4
  exact ⟨h4, h7, h1⟩
/-- and after the digit -/
theorem Win.after {M L S : List Nat} {off n : Nat} (h : Win M L off n S) (hz : val (L.drop (off + n + 1)) = 0) : val M = val (L.take off) + B off * val S := by
  have hf := h.fits
  have hl := h.len
  have h1 := val_split M off (by omega)
  have h2 := val_split (M.drop off) (n + 1) (by simp; omega)
  rw [List.drop_drop, show off + (n + 1) = off + n + 1 by omega, h.hi, hz, Nat.mul_zero, Nat.add_zero, ← h.win] at h2
  rw [h2, h.lo] at h1
  exact h1
/-- a digit more -/
theorem digit_sum {qh b v u0 t vu d s : Nat} (h : qh * (4294967296 * b) * v + (t + b * vu) = u0) (hd : vu = d * v + s) : (d + 4294967296 * qh) * b * v + (t + b * s) = u0 := by
  subst hd
  rw [← h]
  clear h
  grind
theorem digit_lt {b v t s : Nat} (ht : t < b) (hs : s < v) : t + b * s < b * v := by
  have : b * (s + 1) ≤ b * v := Nat.mul_le_mul_left _ hs
  rw [Nat.mul_add, Nat.mul_one] at this
  omega
/-- the quotient and the rest, shifted back -/
theorem unshift {a c p q r : Nat} (hp : 0 < p) (h : q * (c * p) + r = a * p) (hr : r < c * p) : q * c + r / p = a ∧ r / p < c := by
  have h1 : q * c * p ≤ a * p := by rw [Nat.mul_assoc]; omega
  have h2 : q * c ≤ a := Nat.le_of_mul_le_mul_right h1 hp
  have h3 : r = (a - q * c) * p := by rw [Nat.sub_mul, Nat.mul_assoc q c p]; omega
  have h4 : r / p = a - q * c := by rw [h3, Nat.mul_div_cancel _ hp]
  refine ⟨by omega, ?_⟩
  rw [h4]
  rw [h3] at hr
  exact Nat.lt_of_mul_lt_mul_right hr
end Go.Proofs.Ytdmolcopnehkbaa
