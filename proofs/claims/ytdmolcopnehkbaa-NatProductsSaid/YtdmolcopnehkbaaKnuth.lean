/-
  Plain arithmetic of a division's digit. No program in sight.
-/
import Derived.Test.YtdmolcopnehkbaaShift
set_option autoImplicit false
namespace Go.Proofs.Ytdmolcopnehkbaa

/-- what a digit is asked of: U has one limb more than V, V's top bit is set, and the quotient is one limb -/
structure Digit (U V : List Nat) (n : Nat) : Prop where
  n2 : 2 ≤ n
  lenU : U.length = n + 1
  lenV : V.length = n
  limU : Lim U
  limV : Lim V
  top : 2147483648 ≤ nth V (n - 1)
  lt : val U < 4294967296 * val V

theorem Digit.pos {U V : List Nat} {n : Nat} (h : Digit U V n) : 0 < val V := by
  have h1 := h.n2
  have h2 := val_lo (A := V) (j := n - 1) (by rw [h.lenV]; omega)
  have h3 := h.top
  have h4 := B_pos (n - 1)
  have : 1 * 1 ≤ nth V (n - 1) * B (n - 1) := Nat.mul_le_mul (by omega) h4
  omega
/-- the state of the guess: not below the quotient; with its rest -/
structure Guess (U V : List Nat) (n g r : Nat) : Prop where
  ge : val U / val V ≤ g
  sum : r + g * nth V (n - 1) = nth U n * 4294967296 + nth U (n - 1)

theorem val_top3 {U : List Nat} {n : Nat} (hl : U.length = n + 1) (hn : 2 ≤ n) : val U = val (U.take (n - 2)) + B (n - 2) * ((nth U n * 4294967296 + nth U (n - 1)) * 4294967296 + nth U (n - 2)) := by
  obtain ⟨m, rfl⟩ : ∃ m, n = m + 2 := ⟨n - 2, by omega⟩
  have h1 := val_take_succ (L := U) (k := m + 2) (by omega)
  have h2 := val_take_succ (L := U) (k := m + 1) (by omega)
  have h3 := val_take_succ (L := U) (k := m) (by omega)
  rw [show m + 2 + 1 = U.length by omega, List.take_length, h2, h3] at h1
  simp only [B_succ] at h1
  rw [h1, show m + 2 - 2 = m by omega, show m + 2 - 1 = m + 1 by omega]
  generalize B m = b; generalize nth U (m + 2) = x; generalize nth U (m + 1) = y; generalize nth U m = z; generalize val (U.take m) = v
  clear h1 h2 h3 hl hn
  grind
theorem val_top2 {V : List Nat} {n : Nat} (hl : V.length = n) (hn : 2 ≤ n) : val V = val (V.take (n - 2)) + B (n - 2) * (nth V (n - 1) * 4294967296 + nth V (n - 2)) := by
  obtain ⟨m, rfl⟩ : ∃ m, n = m + 2 := ⟨n - 2, by omega⟩
  have h2 := val_take_succ (L := V) (k := m + 1) (by omega)
  have h3 := val_take_succ (L := V) (k := m) (by omega)
  rw [show m + 1 + 1 = V.length by omega, List.take_length, h3] at h2
  simp only [B_succ] at h2
  rw [h2, show m + 2 - 2 = m by omega, show m + 2 - 1 = m + 1 by omega]
  generalize B m = b; generalize nth V (m + 1) = y; generalize nth V m = z; generalize val (V.take m) = v
  clear h2 h3 hl hn
  grind

theorem Digit.top_le {U V : List Nat} {n : Nat} (h : Digit U V n) : nth U n ≤ nth V (n - 1) := by
  have hn := h.n2
  have h1 := val_lo (A := U) (j := n) h.lenU
  have h2 := val_hi (A := V) (j := n - 1) h.limV (by rw [h.lenV]; omega)
  have h3 := h.lt
  have h4 : B n = 4294967296 * B (n - 1) := by rw [← B_succ]; congr 1; omega
  rcases Nat.lt_or_ge (nth V (n - 1)) (nth U n) with h5 | h5
  · have h6 : (nth V (n - 1) + 1) * B n ≤ nth U n * B n := Nat.mul_le_mul_right _ h5
    have h7 : (nth V (n - 1) + 1) * B n = 4294967296 * ((nth V (n - 1) + 1) * B (n - 1)) := by rw [h4]; generalize B (n - 1) = b; generalize nth V (n - 1) + 1 = x; grind
    omega
  · exact h5
theorem Digit.q_lt {U V : List Nat} {n : Nat} (h : Digit U V n) : val U / val V < 4294967296 := by
  rw [Nat.div_lt_iff_lt_mul h.pos, Nat.mul_comm]
  rw [Nat.mul_comm]; exact h.lt

theorem Digit.start {U V : List Nat} {n : Nat} (h : Digit U V n) : Guess U V n ((nth U n * 4294967296 + nth U (n - 1)) / nth V (n - 1)) ((nth U n * 4294967296 + nth U (n - 1)) % nth V (n - 1)) := by
  have hn := h.n2
  have ht := h.top
  refine ⟨?_, by have e := Nat.mod_add_div (nth U n * 4294967296 + nth U (n - 1)) (nth V (n - 1)); rw [Nat.mul_comm (nth V (n - 1))] at e; exact e⟩
  rw [Nat.le_div_iff_mul_le (by omega)]
  have h1 : val U / val V * val V ≤ val U := Nat.div_mul_le_self _ _
  have h2 := val_lo (A := V) (j := n - 1) (by rw [h.lenV]; omega)
  have h3 := val_take_succ (L := U) (k := n) (by have := h.lenU; omega)
  have h4 := val_take_succ (L := U) (k := n - 1) (by have := h.lenU; omega)
  rw [show n - 1 + 1 = n by omega] at h4
  rw [show n + 1 = U.length from h.lenU.symm, List.take_length, h4] at h3
  have h5 := val_take_lt h.limU (n - 1)
  have h6 : B n = 4294967296 * B (n - 1) := by rw [← B_succ]; congr 1; omega
  have h7 : val U < (nth U n * 4294967296 + nth U (n - 1) + 1) * B (n - 1) := by
    rw [h3, h6, Nat.add_mul, Nat.add_mul]
    have e1 : 4294967296 * B (n - 1) * nth U n = nth U n * 4294967296 * B (n - 1) := by generalize B (n - 1) = b; generalize nth U n = x; grind
    have e2 : B (n - 1) * nth U (n - 1) = nth U (n - 1) * B (n - 1) := Nat.mul_comm _ _
    omega
  have h8 : val U / val V * (nth V (n - 1) * B (n - 1)) ≤ val U / val V * val V := Nat.mul_le_mul_left _ h2
  rw [← Nat.mul_assoc] at h8
  have h9 := B_pos (n - 1)
  have h10 : val U / val V * nth V (n - 1) * B (n - 1) < (nth U n * 4294967296 + nth U (n - 1) + 1) * B (n - 1) := by omega
  have := Nat.lt_of_mul_lt_mul_right h10
  omega

/-- a guess that is too great is taken down by one -/
theorem Guess.down {U V : List Nat} {n g r : Nat} (hd : Digit U V n) (h : Guess U V n g r) (hc : 4294967296 ≤ g ∨ r * 4294967296 + nth U (n - 2) < g * nth V (n - 2)) : 1 ≤ g ∧ Guess U V n (g - 1) (r + nth V (n - 1)) := by
  have hlt : val U / val V < g := by
    rcases hc with hc | hc
    · have := hd.q_lt; omega
    · have hn := hd.n2
      rw [Nat.div_lt_iff_lt_mul hd.pos]
      have h1 := val_top3 hd.lenU hn
      have h2 := val_top2 hd.lenV hn
      have h3 := val_take_lt hd.limU (n - 2)
      have h4 : (r + g * nth V (n - 1)) * 4294967296 + nth U (n - 2) + 1 ≤ g * (nth V (n - 1) * 4294967296 + nth V (n - 2)) := by
        rw [Nat.mul_add, Nat.add_mul]
        have : g * nth V (n - 1) * 4294967296 = g * (nth V (n - 1) * 4294967296) := Nat.mul_assoc _ _ _
        omega
      rw [h.sum] at h4
      have h5 : B (n - 2) * ((nth U n * 4294967296 + nth U (n - 1)) * 4294967296 + nth U (n - 2) + 1) ≤ B (n - 2) * (g * (nth V (n - 1) * 4294967296 + nth V (n - 2))) := Nat.mul_le_mul_left _ h4
      have h6 : g * (B (n - 2) * (nth V (n - 1) * 4294967296 + nth V (n - 2))) ≤ g * val V := Nat.mul_le_mul_left _ (by rw [h2]; exact Nat.le_add_left _ _)
      have h7 : g * (B (n - 2) * (nth V (n - 1) * 4294967296 + nth V (n - 2))) = B (n - 2) * (g * (nth V (n - 1) * 4294967296 + nth V (n - 2))) := Nat.mul_left_comm g (B (n - 2)) (nth V (n - 1) * 4294967296 + nth V (n - 2))
      rw [Nat.mul_add (B (n - 2)) _ 1, Nat.mul_one] at h5
      omega
  have hg1 : 1 ≤ g := Nat.lt_of_le_of_lt (Nat.zero_le _) hlt
  refine ⟨hg1, Nat.le_sub_one_of_lt hlt, ?_⟩
  have h1 := h.sum
  obtain ⟨m, rfl⟩ : ∃ m, g = m + 1 := ⟨g - 1, by omega⟩
  rw [Nat.add_mul, Nat.one_mul] at h1
  rw [Nat.add_sub_cancel]
  omega

/-- the guess at the loop's end: at most one too great -/
structure Near (U V : List Nat) (n g : Nat) : Prop where
  ge : val U / val V ≤ g
  le : g ≤ val U / val V + 1
  lt : g < 4294967296

theorem Guess.near {U V : List Nat} {n g r : Nat} (hd : Digit U V n) (h : Guess U V n g r) (h1 : g < 4294967296) (h2 : g * nth V (n - 2) ≤ r * 4294967296 + nth U (n - 2)) : Near U V n g := by
  refine ⟨h.ge, ?_, h1⟩
  have hn := hd.n2
  cases g with
  | zero => exact Nat.zero_le _
  | succ m =>
    suffices hs : m ≤ val U / val V from Nat.succ_le_succ hs
    rw [Nat.le_div_iff_mul_le hd.pos]
    have e1 := val_top3 hd.lenU hn
    have e2 := val_top2 hd.lenV hn
    have e3 := val_take_lt hd.limV (n - 2)
    have e4 := hd.top
    -- (m + 1) (v1 B + v0) is at most the top three limbs
    have h4 : (m + 1) * (nth V (n - 1) * 4294967296 + nth V (n - 2)) ≤ (nth U n * 4294967296 + nth U (n - 1)) * 4294967296 + nth U (n - 2) := by
      rw [← h.sum, Nat.mul_add, Nat.add_mul r]
      have : (m + 1) * nth V (n - 1) * 4294967296 = (m + 1) * (nth V (n - 1) * 4294967296) := Nat.mul_assoc _ _ _
      omega
    have h5 : B (n - 2) * ((m + 1) * (nth V (n - 1) * 4294967296 + nth V (n - 2))) ≤ val U := by
      have := Nat.mul_le_mul_left (B (n - 2)) h4
      omega
    obtain ⟨w, hw⟩ : ∃ w, w = nth V (n - 1) * 4294967296 + nth V (n - 2) := ⟨_, rfl⟩
    rw [← hw] at h4 h5 e2
    have hwm : m ≤ w := by omega
    have h6 : m * val V ≤ m * (B (n - 2) + B (n - 2) * w) := Nat.mul_le_mul_left _ (by omega)
    have h7 : m * (B (n - 2) + B (n - 2) * w) = B (n - 2) * m + B (n - 2) * (m * w) := by
      generalize B (n - 2) = b
      clear h6 h5 h4 hw hwm e1 e2 e3 e4 h h1 h2
      grind
    have h8 : B (n - 2) * m ≤ B (n - 2) * w := Nat.mul_le_mul_left _ hwm
    have h9 : B (n - 2) * ((m + 1) * w) = B (n - 2) * (m * w) + B (n - 2) * w := by rw [Nat.add_mul, Nat.one_mul, Nat.mul_add]
    omega
/-- the loop is left early: the rest has grown beyond a limb -/
theorem Guess.near_break {U V : List Nat} {n g r : Nat} (hd : Digit U V n) (h : Guess U V n g r) (hr : 4294967296 ≤ r) : Near U V n g := by
  have h1 := h.sum
  have h2 := hd.top_le
  have hn := hd.n2
  have hu := nth_lt hd.limU (n - 1)
  have hv := nth_lt hd.limV (n - 2)
  have hg : g < 4294967296 := by
    rcases Nat.lt_or_ge g 4294967296 with h3 | h3
    · exact h3
    · have h4 : 4294967296 * nth V (n - 1) ≤ g * nth V (n - 1) := Nat.mul_le_mul_right _ h3
      have h5 : nth U n * 4294967296 ≤ nth V (n - 1) * 4294967296 := Nat.mul_le_mul_right _ h2
      omega
  refine h.near hd hg ?_
  have h6 : g * nth V (n - 2) ≤ 4294967296 * 4294967296 := Nat.mul_le_mul (by omega) (by omega)
  have h7 : 4294967296 * 4294967296 ≤ r * 4294967296 := Nat.mul_le_mul_right _ hr
  omega

/-- a multiple taken away, a limb more -/
theorem takes_step {U V S : List Nat} {i t cy bw s bw' cy' lo : Nat} (hS : i < S.length) (h : val (S.take i) + t * val (V.take i) = val (U.take i) + (cy + bw) * B i)
    (h1 : cy + t * nth V i = lo + 4294967296 * cy') (h2 : nth U i + 4294967296 * bw' = s + lo + bw) :
    val ((S.set i s).take (i + 1)) + t * val (V.take (i + 1)) = val (U.take (i + 1)) + (cy' + bw') * B (i + 1) := by
  rw [val_take_succ (by simpa using hS), take_set_ge s (Nat.le_refl i), nth_set_eq s hS, val_take_succ' U, val_take_succ' V, B_succ]
  have e : s + (cy + t * nth V i) + bw = nth U i + 4294967296 * (bw' + cy') := by omega
  have e2 : B i * (s + (cy + t * nth V i) + bw) = B i * (nth U i + 4294967296 * (bw' + cy')) := by rw [e]
  clear h1 h2 e hS
  generalize val (S.take i) = a at *; generalize val (U.take i) = b at *; generalize val (V.take i) = c at *; generalize nth V i = y at *; generalize nth U i = x at *; generalize B i = p at *
  grind
theorem takes_end {U V S : List Nat} {n t cy bw s bw' : Nat} (hS : S.length = n + 1) (hU : U.length = n + 1) (hV : V.length = n) (h : val (S.take n) + t * val (V.take n) = val (U.take n) + (cy + bw) * B n)
    (h2 : nth U n + 4294967296 * bw' = s + cy + bw) : val (S.set n s) + t * val V = val U + bw' * B (n + 1) := by
  have hv : V.take (n + 1) = V := List.take_of_length_le (by omega)
  have h3 := takes_step (t := t) (cy' := 0) (lo := cy) (s := s) (bw' := bw') (by omega) h (by rw [nth_ge (L := V) (by omega)]; simp) h2
  rw [List.take_of_length_le (by simp; omega), hv, List.take_of_length_le (by omega), Nat.zero_add] at h3
  exact h3
/-- given back -/
theorem back_end {V S T : List Nat} {n cy s c' : Nat} (hS : S.length = n + 1) (hT : T.length = n + 1) (hV : V.length = n) (h : val (T.take n) + cy * B n = val (S.take n) + val (V.take n)) (h2 : s + 4294967296 * c' = nth S n + cy) : val (T.set n s) + c' * B (n + 1) = val S + val V := by
  have h3 := add_step (A := S) (C := V) (S := T) (k := n) (cy := cy) (s := s) (cy' := c') (by omega) h (by rw [nth_ge (L := V) (by omega)]; omega)
  rw [List.take_of_length_le (by simp; omega), List.take_of_length_le (by omega), List.take_of_length_le (by omega)] at h3
  exact h3

/-- what is left of U, and the digit -/
theorem Near.exact {U V S : List Nat} {n g b : Nat} (hd : Digit U V n) (h : Near U V n g) (hS : Lim S) (hl : S.length = n + 1) (hb : b ≤ 1) (he : val S + g * val V = val U + b * B (n + 1)) :
    (b = 0 → g = val U / val V ∧ val S = val U % val V) ∧
    (b = 1 → 1 ≤ g ∧ g - 1 = val U / val V ∧ ∀ T c, Lim T → T.length = n + 1 → val T + c * B (n + 1) = val S + val V → val T = val U % val V) := by
  have hm := Nat.div_add_mod (val U) (val V)
  have hml := Nat.mod_lt (val U) hd.pos
  have hSl := val_lt hS
  rw [hl] at hSl
  have hVl := val_lt hd.limV
  rw [hd.lenV] at hVl
  have hBn : B (n + 1) = 4294967296 * B n := B_succ n
  obtain ⟨hge, hle, _⟩ := h
  rw [Nat.mul_comm] at hm
  generalize val U / val V = q at *
  generalize val U % val V = r at *
  have hcase : g = q ∨ g = q + 1 := by omega
  constructor
  · intro h0
    subst h0
    rcases hcase with rfl | rfl
    · exact ⟨rfl, by omega⟩
    · rw [Nat.add_mul] at he; omega
  · intro h1
    subst h1
    rcases hcase with rfl | rfl
    · omega
    · refine ⟨by omega, by omega, fun T c hT hTl hTe => ?_⟩
      have hTlt := val_lt hT
      rw [hTl] at hTlt
      rw [Nat.add_mul] at he
      cases c with
      | zero => omega
      | succ c =>
        cases c with
        | zero => omega
        | succ c =>
          have : (c + 1 + 1) * B (n + 1) = c * B (n + 1) + 2 * B (n + 1) := by rw [Nat.add_mul, Nat.add_mul]; omega
          omega
#print axioms Near.exact
end Go.Proofs.Ytdmolcopnehkbaa
