/-
  The walk of NatPowers.
-/
import Derived.Test.YtdmolcopnehkbaaW15
set_option autoImplicit false
namespace Go.Proofs.Ytdmolcopnehkbaa
open Go.RowKit

theorem powN_add {a : Nat} {n m : Int} (h1 : 0 ≤ n) (h2 : n ≤ 60) (h3 : 0 ≤ m) (h4 : m ≤ 60) : powN a n * powN a m = powN a (n + m) := by
  unfold powN
  rw [if_pos (by omega), if_pos (by omega), if_pos (by omega), ← Nat.pow_add]
  congr 1
  omega
theorem powN_lt {a : Nat} {n : Int} (h : a < B 2) (h1 : 0 ≤ n) (h2 : n ≤ 60) : powN a n < B 121 := by
  unfold powN
  rw [if_pos (by omega)]
  exact pow_lt_B h (by omega)

set_option maxHeartbeats 1600000 in
theorem natPowers_long (va : Value) (n m : Int) (A : List Nat) (w : World) (hA : SL w va A) (hl : 2 < A.length) : Calls Try.prog 6 #[va, .int .i64 n, .int .i64 m] w (fun e w' => e = .returned (.bool true) ∧ Below w.heap.size w w') := by
  obtain ⟨ao, l, cap, rfl, hA⟩ := hA
  have hsm := hA.small
  have HA : Hid (SL w (.slice ao l cap) A) := ⟨_, _, _, rfl, hA⟩
  have hl' : 2 < l := by have := hA.len; omega
  clear hA hl
  go_enter Try.func6, Try.ntmps6
  go_wp2_with (go_at_call 12; refine Calls.mono (awake_any _) ?_; rintro e w2 ⟨rfl, hb⟩)
  go_ret
  exact ⟨rfl, hb⟩
set_option maxHeartbeats 1600000 in
theorem natPowers_wrong (va : Value) (n m : Int) (A : List Nat) (w : World) (hA : SL w va A) (hl : A.length ≤ 2) (ht : topB A = false) : Calls Try.prog 6 #[va, .int .i64 n, .int .i64 m] w (fun e w' => e = .returned (.bool true) ∧ Below w.heap.size w w') := by
  obtain ⟨ao, l, cap, rfl, hA⟩ := hA
  have hsm := hA.small
  have HA : Hid (SL w (.slice ao l cap) A) := ⟨_, _, _, rfl, hA⟩
  have hl' : l ≤ 2 := by have := hA.len; omega
  clear hA hl
  go_enter Try.func6, Try.ntmps6
  go_wp2_with (first | (go_at_call 30; refine Calls.mono (rright_sl _ A _ (by exact HA.out)) ?_; rw [ht]; rintro e w2 ⟨rfl, rfl⟩) | (go_at_call 12; refine Calls.mono (awake_any _) ?_; rintro e w2 ⟨rfl, hb⟩))
  go_ret
  exact ⟨rfl, hb⟩
set_option maxHeartbeats 1600000 in
theorem natPowers_early (va : Value) (n m : Int) (A : List Nat) (w : World) (hA : SL w va A) (hl : A.length ≤ 2) (ht : topB A = true) (hc : (60 < n ∧ n ≤ 1000) ∨ (60 < m ∧ m ≤ 1000 ∧ (n ≤ 60 ∨ 1000 < n))) : Calls Try.prog 6 #[va, .int .i64 n, .int .i64 m] w (fun e w' => e = .returned (.bool true) ∧ Below w.heap.size w w') := by
  obtain ⟨ao, l, cap, rfl, hA⟩ := hA
  have hsm := hA.small
  have HA : Hid (SL w (.slice ao l cap) A) := ⟨_, _, _, rfl, hA⟩
  have hl' : l ≤ 2 := by have := hA.len; omega
  clear hA hl
  rcases hc with ⟨h1, h2⟩ | ⟨h1, h2, h3 | h3⟩
  all_goals
    go_enter Try.func6, Try.ntmps6
    go_wp2_with (first | (go_at_call 30; refine Calls.mono (rright_sl _ A _ (by exact HA.out)) ?_; rw [ht]; rintro e w2 ⟨rfl, rfl⟩) | (go_at_call 12; refine Calls.mono (awake_any _) ?_; rintro e w2 ⟨rfl, hb⟩))
    go_ret
    exact ⟨rfl, hb⟩
set_option maxHeartbeats 1600000 in
theorem natPowers_late (va : Value) (n m : Int) (A : List Nat) (w : World) (hA : SL w va A) (hl : A.length ≤ 2) (ht : topB A = true) (hn : n ≤ 60 ∨ 1000 < n) (hm : m ≤ 60 ∨ 1000 < m) (hc : n < 0 ∨ (0 ≤ n ∧ m < 0) ∨ (60 < n ∧ 0 ≤ m) ∨ (0 ≤ n ∧ n ≤ 60 ∧ 60 < m)) : Calls Try.prog 6 #[va, .int .i64 n, .int .i64 m] w (fun e w' => e = .returned (.bool true) ∧ Below w.heap.size w w') := by
  obtain ⟨ao, l, cap, rfl, hA⟩ := hA
  have hsm := hA.small
  have HA : Hid (SL w (.slice ao l cap) A) := ⟨_, _, _, rfl, hA⟩
  have hl' : l ≤ 2 := by have := hA.len; omega
  have BA := Lib.hid (val_B HA.out hl)
  have H1 := Lib.hid (show RN w (.slice ao l cap) (val A) from ⟨A, HA.out, Top.of ht, rfl⟩)
  have HW := Lib.hid (Below.refl w.heap.size w)
  clear hA hl
  rcases hn with hn | hn
  all_goals rcases hm with hm | hm
  all_goals rcases hc with hc | ⟨hc, hc'⟩ | ⟨hc, hc'⟩ | ⟨hc, hc', hc2⟩
  all_goals try (exfalso; omega)
  all_goals
    go_enter Try.func6, Try.ntmps6
    go_wp2_with (go_at_call 30; refine Calls.mono (rright_sl _ A _ (by exact HA.out)) ?_; rw [ht]; rintro e w2 ⟨rfl, rfl⟩)
    have G1 : True := trivial
    go_wp2_with (go_at_call 31; clear G1; refine Calls.mono (pow_rn _ _ _ _ (by exact H1.out) 2 (by exact BA.out) (by omega)) ?_; rintro e w2 ⟨x3, rfl, hn, hb⟩; have HB := Lib.hid (hb); replace H1 := Lib.hid (H1.out.step HB.out); replace HW := Lib.hid (bstep HW.out HB.out (Nat.le_refl _)); clear hb HB; have H3 := Lib.hid hn; clear hn)
    have G2 : True := trivial
    go_wp2_with (go_at_call 32; clear G2; refine Calls.mono (rpow_rn _ _ _ _ (by exact H1.out) 2 (by exact BA.out) (by omega)) ?_; rintro e w2 ⟨x4, rfl, hn, hb⟩; have HB := Lib.hid (hb); replace H1 := Lib.hid (H1.out.step HB.out); replace H3 := Lib.hid (H3.out.step HB.out); replace HW := Lib.hid (bstep HW.out HB.out (Nat.le_refl _)); clear hb HB; have H4 := Lib.hid hn; clear hn)
    have G3 : True := trivial
    go_wp2_with (go_at_call 15; clear G3; refine Calls.mono (same_b _ _ _ _ (by exact H3.out) (by exact H4.out)) ?_; rintro e w2 ⟨rfl, hb⟩; have HB := Lib.hid (hb); replace H1 := Lib.hid (H1.out.step HB.out); replace HW := Lib.hid (bstep HW.out HB.out (Nat.le_refl _)); clear hb HB; clear H3 H4)
    have G4 : True := trivial
    go_wp2_with (go_at_call 12; clear G4; refine Calls.mono (awake_any _) ?_; rintro e w2 ⟨rfl, hb⟩; have HB := Lib.hid (hb); replace H1 := Lib.hid (H1.out.step HB.out); replace HW := Lib.hid (bstep HW.out HB.out (Nat.le_refl _)); clear hb HB)
    go_ret
    exact ⟨rfl, HW.out⟩
set_option maxHeartbeats 1600000 in
theorem natPowers_full (va : Value) (n m : Int) (A : List Nat) (w : World) (hA : SL w va A) (hl : A.length ≤ 2) (ht : topB A = true) (h1 : 0 ≤ n) (h2 : n ≤ 60) (h3 : 0 ≤ m) (h4 : m ≤ 60) : Calls Try.prog 6 #[va, .int .i64 n, .int .i64 m] w (fun e w' => e = .returned (.bool true) ∧ Below w.heap.size w w') := by
  obtain ⟨ao, l, cap, rfl, hA⟩ := hA
  have hsm := hA.small
  have HA : Hid (SL w (.slice ao l cap) A) := ⟨_, _, _, rfl, hA⟩
  have hl' : l ≤ 2 := by have := hA.len; omega
  have BA := Lib.hid (val_B HA.out hl)
  have H1 := Lib.hid (show RN w (.slice ao l cap) (val A) from ⟨A, HA.out, Top.of ht, rfl⟩)
  have HW := Lib.hid (Below.refl w.heap.size w)
  clear hA hl
  have HN := Lib.hid (powN_lt BA.out h1 h2)
  have HM := Lib.hid (powN_lt BA.out h3 h4)
  have HE := Lib.hid (powN_add (a := val A) h1 h2 h3 h4)
  go_enter Try.func6, Try.ntmps6
  go_wp2_with (go_at_call 30; refine Calls.mono (rright_sl _ A _ (by exact HA.out)) ?_; rw [ht]; rintro e w2 ⟨rfl, rfl⟩)
  have G1 : True := trivial
  go_wp2_with (go_at_call 31; clear G1; refine Calls.mono (pow_rn _ _ _ _ (by exact H1.out) 2 (by exact BA.out) (by omega)) ?_; rintro e w2 ⟨x3, rfl, hn, hb⟩; have HB := Lib.hid (hb); replace H1 := Lib.hid (H1.out.step HB.out); replace HW := Lib.hid (bstep HW.out HB.out (Nat.le_refl _)); clear hb HB; have H3 := Lib.hid hn; clear hn)
  have G2 : True := trivial
  go_wp2_with (go_at_call 32; clear G2; refine Calls.mono (rpow_rn _ _ _ _ (by exact H1.out) 2 (by exact BA.out) (by omega)) ?_; rintro e w2 ⟨x4, rfl, hn, hb⟩; have HB := Lib.hid (hb); replace H1 := Lib.hid (H1.out.step HB.out); replace H3 := Lib.hid (H3.out.step HB.out); replace HW := Lib.hid (bstep HW.out HB.out (Nat.le_refl _)); clear hb HB; have H4 := Lib.hid hn; clear hn)
  have G3 : True := trivial
  go_wp2_with (go_at_call 15; clear G3; refine Calls.mono (same_b _ _ _ _ (by exact H3.out) (by exact H4.out)) ?_; rintro e w2 ⟨rfl, hb⟩; have HB := Lib.hid (hb); replace H1 := Lib.hid (H1.out.step HB.out); replace HW := Lib.hid (bstep HW.out HB.out (Nat.le_refl _)); clear hb HB; clear H3 H4)
  have G4 : True := trivial
  go_wp2_with (go_at_call 12; clear G4; refine Calls.mono (awake_any _) ?_; rintro e w2 ⟨rfl, hb⟩; have HB := Lib.hid (hb); replace H1 := Lib.hid (H1.out.step HB.out); replace HW := Lib.hid (bstep HW.out HB.out (Nat.le_refl _)); clear hb HB)
  have G5 : True := trivial
  go_wp2_with (go_at_call 31; clear G5; refine Calls.mono (pow_rn _ _ n _ (by exact H1.out) 2 (by exact BA.out) (by omega)) ?_; rintro e w2 ⟨x5, rfl, hn, hb⟩; have HB := Lib.hid (hb); replace H1 := Lib.hid (H1.out.step HB.out); replace HW := Lib.hid (bstep HW.out HB.out (Nat.le_refl _)); clear hb HB; have H5 := Lib.hid hn; clear hn)
  have G6 : True := trivial
  go_wp2_with (go_at_call 31; clear G6; refine Calls.mono (pow_rn _ _ m _ (by exact H1.out) 2 (by exact BA.out) (by omega)) ?_; rintro e w2 ⟨x6, rfl, hn, hb⟩; have HB := Lib.hid (hb); replace H1 := Lib.hid (H1.out.step HB.out); replace H5 := Lib.hid (H5.out.step HB.out); replace HW := Lib.hid (bstep HW.out HB.out (Nat.le_refl _)); clear hb HB; have H6 := Lib.hid hn; clear hn)
  have G7 : True := trivial
  go_wp2_with (go_at_call 22; clear G7; refine Calls.mono (mul_rn _ _ _ _ _ (by exact H5.out) (by exact H6.out) 121 121 (by exact HN.out) (by exact HM.out) (by omega) (by omega)) ?_; rintro e w2 ⟨x7, rfl, hn, hb⟩; have HB := Lib.hid (hb); replace H1 := Lib.hid (H1.out.step HB.out); replace HW := Lib.hid (bstep HW.out HB.out (Nat.le_refl _)); clear hb HB; clear H5 H6; have H7 := Lib.hid hn; clear hn)
  have G8 : True := trivial
  go_wp2_with (go_at_call 31; clear G8; refine Calls.mono (pow_rn _ _ (n + m) _ (by exact H1.out) 2 (by exact BA.out) (by omega)) ?_; rintro e w2 ⟨x8, rfl, hn, hb⟩; have HB := Lib.hid (hb); replace H1 := Lib.hid (H1.out.step HB.out); replace H7 := Lib.hid (H7.out.step HB.out); replace HW := Lib.hid (bstep HW.out HB.out (Nat.le_refl _)); clear hb HB; have H8 := Lib.hid hn; clear hn)
  have G9 : True := trivial
  go_wp2_with (go_at_call 15; clear G9; refine Calls.mono (same_b _ _ _ _ (by have h := H7.out; rw [HE.out] at h; exact h) (by exact H8.out)) ?_; rintro e w2 ⟨rfl, hb⟩; have HB := Lib.hid (hb); replace H1 := Lib.hid (H1.out.step HB.out); replace HW := Lib.hid (bstep HW.out HB.out (Nat.le_refl _)); clear hb HB; clear H7 H8)
  go_ret
  exact ⟨rfl, HW.out⟩
theorem natPowers_any (va : Value) (n m : Int) (A : List Nat) (w : World) (hA : SL w va A) (_hn : -9223372036854775808 ≤ n ∧ n ≤ 9223372036854775807) (_hm : -9223372036854775808 ≤ m ∧ m ≤ 9223372036854775807) : Calls Try.prog 6 #[va, .int .i64 n, .int .i64 m] w (fun e w' => e = .returned (.bool true) ∧ Below w.heap.size w w') := by
  by_cases hl : A.length ≤ 2
  · cases ht : topB A with
    | false => exact natPowers_wrong va n m A w hA hl ht
    | true =>
      by_cases c1 : 60 < n ∧ n ≤ 1000
      · exact natPowers_early va n m A w hA hl ht (Or.inl c1)
      · by_cases c2 : 60 < m ∧ m ≤ 1000
        · exact natPowers_early va n m A w hA hl ht (Or.inr (by omega))
        · by_cases c3 : 0 ≤ n ∧ n ≤ 60 ∧ 0 ≤ m ∧ m ≤ 60
          · exact natPowers_full va n m A w hA hl ht c3.1 c3.2.1 c3.2.2.1 c3.2.2.2
          · exact natPowers_late va n m A w hA hl ht (by omega) (by omega) (by omega)
  · exact natPowers_long va n m A w hA (by omega)
#print axioms natPowers_any
end Go.Proofs.Ytdmolcopnehkbaa
