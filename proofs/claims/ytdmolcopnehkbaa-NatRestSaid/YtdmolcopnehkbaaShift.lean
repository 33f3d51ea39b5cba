/-
  Plain arithmetic of shifts. No program in sight.
-/
import Derived.Test.YtdmolcopnehkbaaLimbs
import Derived.Laws.BitsAllLaws
set_option autoImplicit false
namespace Go.Proofs.Ytdmolcopnehkbaa

theorem B_two (q : Nat) : B q = 2 ^ (32 * q) := by
  unfold B; rw [Nat.pow_mul]
theorem two_split (n q s : Nat) (h : n = 32 * q + s) : 2 ^ n = B q * 2 ^ s := by
  rw [B_two, ← Nat.pow_add, h]
/-- p is a power of two that divides the base -/
structure Pw (p s : Nat) : Prop where
  eq : p = 2 ^ s
  lt : s < 32
theorem Pw.pos {p s : Nat} (h : Pw p s) : 0 < p := by rw [h.eq]; exact Nat.pow_pos (by decide)
theorem Pw.dvd {p s : Nat} (h : Pw p s) : p * 2 ^ (32 - s) = 4294967296 := by
  rw [h.eq, ← Nat.pow_add]
  have := h.lt
  rw [show s + (32 - s) = 32 by omega]
theorem Pw.le {p s : Nat} (h : Pw p s) : p ≤ 2147483648 := by
  rw [h.eq]
  have := h.lt
  exact Nat.pow_le_pow_right (by decide) (show s ≤ 31 by omega)
theorem Pw.mod_zero {p s : Nat} (h : Pw p s) (x : Nat) : (x * p) % 4294967296 % p = 0 := by
  have hd := h.dvd
  have h1 : p ∣ 4294967296 := ⟨_, hd.symm⟩
  rw [Nat.mod_mod_of_dvd _ h1, Nat.mul_mod_left]
theorem Pw.join {p s : Nat} (h : Pw p s) (x c : Nat) (hc : c < p) : c ||| (x * p) % 4294967296 = c + (x * p) % 4294967296 := by
  have h1 := h.mod_zero x
  rw [Nat.or_comm, nat_join s _ _ (by rw [← h.eq]; exact h1) (by rw [← h.eq]; exact hc), Nat.add_comm]
theorem Pw.room {p s : Nat} (h : Pw p s) (x c : Nat) (hc : c < p) : c + (x * p) % 4294967296 < 4294967296 := by
  have h1 := h.mod_zero x
  have hd := h.dvd
  have hp := h.pos
  generalize hy : (x * p) % 4294967296 = y at *
  have hlt : y < 4294967296 := by rw [← hy]; exact Nat.mod_lt _ (by decide)
  obtain ⟨k, hk⟩ : p ∣ y := Nat.dvd_of_mod_eq_zero h1
  generalize 2 ^ (32 - s) = e at *
  have hke : k < e := by
    rcases Nat.lt_or_ge k e with h2 | h2
    · exact h2
    · have : p * e ≤ p * k := Nat.mul_le_mul_left _ h2
      omega
  have : p * (k + 1) ≤ p * e := Nat.mul_le_mul_left _ hke
  rw [Nat.mul_add] at this
  omega
theorem Pw.hi {p s : Nat} (h : Pw p s) (x : Nat) (hx : x < 4294967296) : x * p / 4294967296 < p := by
  rw [Nat.div_lt_iff_lt_mul (by decide), Nat.mul_comm p]
  exact (Nat.mul_lt_mul_right h.pos).2 hx
theorem Pw.mul_lt {p s : Nat} (h : Pw p s) (x : Nat) (hx : x < 4294967296) : x * p < 9223372036854775808 := by
  have h1 := h.le
  have : x * p ≤ 4294967295 * 2147483648 := Nat.mul_le_mul (by omega) h1
  omega

/-- a round of a shift upwards -/
theorem shl_step {A S : List Nat} {q i p : Nat} (hS : q + i + 1 < S.length) (h : val (S.take (q + i + 1)) = B q * p * val (A.take i)) :
    val (((S.set (q + i) (nth S (q + i) + (nth A i * p) % 4294967296)).set (q + i + 1) (nth A i * p / 4294967296)).take (q + i + 1 + 1)) = B q * p * val (A.take (i + 1)) := by
  rw [val_take_succ (by simpa using hS), take_set_ge _ (Nat.le_refl _), nth_set_eq _ (by simpa using hS), val_take_succ (by simp; omega), take_set_ge _ (Nat.le_refl _), nth_set_eq _ (by omega), val_take_succ' A]
  rw [val_take_succ (by omega)] at h
  rw [B_succ]
  have e : nth A i * p % 4294967296 + 4294967296 * (nth A i * p / 4294967296) = nth A i * p := Nat.mod_add_div _ _
  generalize nth A i * p % 4294967296 = lo at *
  generalize nth A i * p / 4294967296 = hi at *
  have e2 : B (q + i) * (lo + 4294967296 * hi) = B (q + i) * (nth A i * p) := by rw [e]
  rw [B_add] at *
  have e3 : B q * p * (val (A.take i) + B i * nth A i) = B q * p * val (A.take i) + B q * B i * (nth A i * p) := by
    clear h e e2 hS
    generalize B q = a; generalize B i = b; generalize nth A i = c; generalize val (A.take i) = d
    grind
  rw [e3, ← h, ← e2]
  clear h e e2 e3 hS
  generalize B q * B i = a; generalize val (S.take (q + i)) = b; generalize nth S (q + i) = c
  grind

theorem val_drop' (D : List Nat) (i : Nat) : val (D.drop i) = nth D i + 4294967296 * val (D.drop (i + 1)) := by
  by_cases h : i < D.length
  · exact val_drop_eq h
  · rw [nth_ge (by omega), List.drop_eq_nil_of_le (by omega), List.drop_eq_nil_of_le (by omega)]; rfl
theorem val_div_B {D : List Nat} (hD : Lim D) {i : Nat} (hi : i ≤ D.length) : val D / B i = val (D.drop i) := by
  rw [val_split D i hi, Nat.add_mul_div_left _ _ (B_pos i), Nat.div_eq_of_lt (val_take_lt hD i), Nat.zero_add]
/-- a round of a shift downwards: the limb of the number i of val D / p -/
theorem shr_digit {D : List Nat} {p s : Nat} (hp : Pw p s) (hD : Lim D) {i : Nat} (hi : i ≤ D.length) : (nth D i + nth D (i + 1) * 4294967296) / p % 4294967296 = val D / p / B i % 4294967296 := by
  rw [Nat.div_div_eq_div_mul, Nat.mul_comm p, ← Nat.div_div_eq_div_mul, val_div_B hD hi, val_drop', val_drop' D (i + 1)]
  have hd := hp.dvd
  generalize 2 ^ (32 - s) = e at *
  generalize val (D.drop (i + 1 + 1)) = r
  generalize nth D i = x
  generalize nth D (i + 1) = y
  have e1 : x + 4294967296 * (y + 4294967296 * r) = (x + y * 4294967296) + p * (4294967296 * (e * r)) := by
    have : p * (4294967296 * (e * r)) = 4294967296 * (p * e * r) := by
      clear hd; grind
    rw [this, hd]; omega
  rw [e1, Nat.add_mul_div_left _ _ hp.pos, Nat.add_mul_mod_self_left]
theorem shr_step {S D : List Nat} {p s : Nat} (hp : Pw p s) (hD : Lim D) {i : Nat} (hi : i < D.length) (hS : i < S.length) (h : val (S.take i) = val D / p % B i) :
    val ((S.set i ((nth D i + nth D (i + 1) * 4294967296) / p % 4294967296)).take (i + 1)) = val D / p % B (i + 1) := by
  rw [val_take_succ (by simpa using hS), take_set_ge _ (Nat.le_refl _), nth_set_eq _ hS, shr_digit hp hD (by omega), h, B_succ, Nat.mul_comm 4294967296, Nat.mod_mul]
theorem shr_lt (x y p s : Nat) (hp : Pw p s) (hx : x < 4294967296) (hy : y < 4294967296) : (x + y * 4294967296) < 18446744073709551616 ∧ (x + y * 4294967296) / p < 18446744073709551616 := by
  have : (x + y * 4294967296) / p ≤ x + y * 4294967296 := Nat.div_le_self _ _
  have := hp.pos
  omega
#print axioms shr_step
end Go.Proofs.Ytdmolcopnehkbaa
