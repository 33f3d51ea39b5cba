/-
  The walk of NatUints.
-/
import Derived.Test.YtdmolcopnehkbaaW15
set_option autoImplicit false
namespace Go.Proofs.Ytdmolcopnehkbaa
open Go.RowKit

theorem uint_small (va : Value) (a : Nat) (w : World) (hA : RN w va a) (h : a < 18446744073709551616) : Calls Try.prog 33 #[va] w (fun e w' => e = .returned (.tuple #[.int .u64 (a : Nat), .bool true]) ∧ Below w.heap.size w w') := by
  refine (uint_b va a w hA).mono ?_
  rintro e w' ⟨rfl, hb⟩
  refine ⟨?_, hb⟩
  rw [decide_eq_true h]
  unfold u64N
  rw [if_pos h]
theorem cmp_z (va vc : Value) (a c : Nat) (z : Int) (w : World) (hA : RN w va a) (hC : RN w vc c) (hz : cmpN a c = z) : Calls Try.prog 18 #[va, vc] w (fun e w' => e = .returned (.int .i64 z) ∧ Below w.heap.size w w') :=
  hz ▸ cmp_b va vc a c w hA hC
theorem cmpN_gt {a c : Nat} (h : c < a) : cmpN a c = 1 := by unfold cmpN; rw [if_neg (by omega), if_pos h]
theorem cmpN_same {a c : Nat} (h : a = c) : cmpN a c = 0 := by unfold cmpN; rw [if_neg (by omega), if_neg (by omega)]

set_option maxHeartbeats 1600000 in
theorem natUints_long (n m : Nat) (va : Value) (A : List Nat) (w : World) (_hn : n < 18446744073709551616) (_hm : m < 18446744073709551616) (hA : SL w va A) (hl : 40 < A.length) : Calls Try.prog 7 #[.int .u64 n, .int .u64 m, va] w (fun e w' => e = .returned (.bool true) ∧ Below w.heap.size w w') := by
  obtain ⟨ao, l, cap, rfl, hA⟩ := hA
  have hsm := hA.small
  have HA : Hid (SL w (.slice ao l cap) A) := ⟨_, _, _, rfl, hA⟩
  have hl' : 40 < l := by have := hA.len; omega
  clear hA hl
  go_enter Try.func7, Try.ntmps7
  go_wp2_with (go_at_call 12; refine Calls.mono (awake_any _) ?_; rintro e w2 ⟨rfl, hb⟩)
  go_ret
  exact ⟨rfl, hb⟩
set_option maxHeartbeats 1600000 in
theorem natUints_wrong (n m : Nat) (va : Value) (A : List Nat) (w : World) (hn : n < 18446744073709551616) (_hm : m < 18446744073709551616) (hA : SL w va A) (hl : A.length ≤ 40) (ht : topB A = false) : Calls Try.prog 7 #[.int .u64 n, .int .u64 m, va] w (fun e w' => e = .returned (.bool true) ∧ Below w.heap.size w w') := by
  obtain ⟨ao, l, cap, rfl, hA⟩ := hA
  have hsm := hA.small
  have HA : Hid (SL w (.slice ao l cap) A) := ⟨_, _, _, rfl, hA⟩
  have hl' : l ≤ 40 := by have := hA.len; omega
  have HW := Lib.hid (Below.refl w.heap.size w)
  clear hA hl
  go_enter Try.func7, Try.ntmps7
  have G1 : True := trivial
  go_wp2_with (go_at_call 34; clear G1; refine Calls.mono (Of_any n _ hn) ?_; rintro e w2 ⟨x3, rfl, hn, hb⟩; have HB := Lib.hid (hb); replace HA := Lib.hid (HA.out.step HB.out); replace HW := Lib.hid (bstep HW.out HB.out (Nat.le_refl _)); clear hb HB; have H3 := Lib.hid hn; clear hn)
  have G2 : True := trivial
  go_wp2_with (go_at_call 33; clear G2; refine Calls.mono (uint_small _ n _ (by exact H3.out) hn) ?_; rintro e w2 ⟨rfl, hb⟩; have HB := Lib.hid (hb); replace HA := Lib.hid (HA.out.step HB.out); replace HW := Lib.hid (bstep HW.out HB.out (Nat.le_refl _)); clear hb HB; clear H3)
  have G3 : True := trivial
  go_wp2_with (go_at_call 34; clear G3; refine Calls.mono (Of_any n _ hn) ?_; rintro e w2 ⟨x4, rfl, hn, hb⟩; have HB := Lib.hid (hb); replace HA := Lib.hid (HA.out.step HB.out); replace HW := Lib.hid (bstep HW.out HB.out (Nat.le_refl _)); clear hb HB; have H4 := Lib.hid hn; clear hn)
  have G4 : True := trivial
  go_wp2_with (go_at_call 35; clear G4; refine Calls.mono (rOf_any n _ hn) ?_; rintro e w2 ⟨x5, rfl, hn, hb⟩; have HB := Lib.hid (hb); replace HA := Lib.hid (HA.out.step HB.out); replace H4 := Lib.hid (H4.out.step HB.out); replace HW := Lib.hid (bstep HW.out HB.out (Nat.le_refl _)); clear hb HB; have H5 := Lib.hid hn; clear hn)
  have G5 : True := trivial
  go_wp2_with (go_at_call 15; clear G5; refine Calls.mono (same_b _ _ _ _ (by exact H4.out) (by exact H5.out)) ?_; rintro e w2 ⟨rfl, hb⟩; have HB := Lib.hid (hb); replace HA := Lib.hid (HA.out.step HB.out); replace HW := Lib.hid (bstep HW.out HB.out (Nat.le_refl _)); clear hb HB; clear H4 H5)
  go_wp2_with (go_at_call 36; refine Calls.mono (right_sl _ A _ (by exact HA.out)) ?_; rw [ht]; rintro e w2 ⟨rfl, rfl⟩)
  go_wp2_with (go_at_call 30; refine Calls.mono (rright_sl _ A _ (by exact HA.out)) ?_; rw [ht]; rintro e w2 ⟨rfl, rfl⟩)
  have G6 : True := trivial
  go_wp2_with (go_at_call 12; clear G6; refine Calls.mono (awake_any _) ?_; rintro e w2 ⟨rfl, hb⟩; have HB := Lib.hid (hb); replace HA := Lib.hid (HA.out.step HB.out); replace HW := Lib.hid (bstep HW.out HB.out (Nat.le_refl _)); clear hb HB)
  go_ret
  exact ⟨rfl, HW.out⟩
set_option maxHeartbeats 1600000 in
theorem natUints_right (n m : Nat) (va : Value) (A : List Nat) (w : World) (hn : n < 18446744073709551616) (hm : m < 18446744073709551616) (hA : SL w va A) (hl : A.length ≤ 40) (ht : topB A = true) : Calls Try.prog 7 #[.int .u64 n, .int .u64 m, va] w (fun e w' => e = .returned (.bool true) ∧ Below w.heap.size w w') := by
  obtain ⟨ao, l, cap, rfl, hA⟩ := hA
  have hsm := hA.small
  have HA : Hid (SL w (.slice ao l cap) A) := ⟨_, _, _, rfl, hA⟩
  have hl' : l ≤ 40 := by have := hA.len; omega
  have HW := Lib.hid (Below.refl w.heap.size w)
  clear hA hl
  have HZ : Hid (RN w (.slice ao l cap) (val A)) := ⟨A, HA.out, Top.of ht, rfl⟩
  rcases Nat.lt_trichotomy n m with hc | hc | hc
  · have HK := Lib.hid (cmpN_lt hc)
    go_enter Try.func7, Try.ntmps7
    have G1 : True := trivial
    go_wp2_with (go_at_call 34; clear G1; refine Calls.mono (Of_any n _ hn) ?_; rintro e w2 ⟨x3, rfl, hn, hb⟩; have HB := Lib.hid (hb); replace HA := Lib.hid (HA.out.step HB.out); replace HZ := Lib.hid (HZ.out.step HB.out); replace HW := Lib.hid (bstep HW.out HB.out (Nat.le_refl _)); clear hb HB; have H3 := Lib.hid hn; clear hn)
    have G2 : True := trivial
    go_wp2_with (go_at_call 33; clear G2; refine Calls.mono (uint_small _ n _ (by exact H3.out) hn) ?_; rintro e w2 ⟨rfl, hb⟩; have HB := Lib.hid (hb); replace HA := Lib.hid (HA.out.step HB.out); replace HZ := Lib.hid (HZ.out.step HB.out); replace HW := Lib.hid (bstep HW.out HB.out (Nat.le_refl _)); clear hb HB; clear H3)
    have G3 : True := trivial
    go_wp2_with (go_at_call 34; clear G3; refine Calls.mono (Of_any n _ hn) ?_; rintro e w2 ⟨x4, rfl, hn, hb⟩; have HB := Lib.hid (hb); replace HA := Lib.hid (HA.out.step HB.out); replace HZ := Lib.hid (HZ.out.step HB.out); replace HW := Lib.hid (bstep HW.out HB.out (Nat.le_refl _)); clear hb HB; have H4 := Lib.hid hn; clear hn)
    have G4 : True := trivial
    go_wp2_with (go_at_call 35; clear G4; refine Calls.mono (rOf_any n _ hn) ?_; rintro e w2 ⟨x5, rfl, hn, hb⟩; have HB := Lib.hid (hb); replace HA := Lib.hid (HA.out.step HB.out); replace HZ := Lib.hid (HZ.out.step HB.out); replace H4 := Lib.hid (H4.out.step HB.out); replace HW := Lib.hid (bstep HW.out HB.out (Nat.le_refl _)); clear hb HB; have H5 := Lib.hid hn; clear hn)
    have G5 : True := trivial
    go_wp2_with (go_at_call 15; clear G5; refine Calls.mono (same_b _ _ _ _ (by exact H4.out) (by exact H5.out)) ?_; rintro e w2 ⟨rfl, hb⟩; have HB := Lib.hid (hb); replace HA := Lib.hid (HA.out.step HB.out); replace HZ := Lib.hid (HZ.out.step HB.out); replace HW := Lib.hid (bstep HW.out HB.out (Nat.le_refl _)); clear hb HB; clear H4 H5)
    go_wp2_with (go_at_call 36; refine Calls.mono (right_sl _ A _ (by exact HA.out)) ?_; rw [ht]; rintro e w2 ⟨rfl, rfl⟩)
    go_wp2_with (go_at_call 30; refine Calls.mono (rright_sl _ A _ (by exact HA.out)) ?_; rw [ht]; rintro e w2 ⟨rfl, rfl⟩)
    have G6 : True := trivial
    go_wp2_with (go_at_call 33; clear G6; refine Calls.mono (uint_b _ _ _ (by exact HZ.out)) ?_; rintro e w2 ⟨rfl, hb⟩; have HB := Lib.hid (hb); replace HA := Lib.hid (HA.out.step HB.out); replace HZ := Lib.hid (HZ.out.step HB.out); replace HW := Lib.hid (bstep HW.out HB.out (Nat.le_refl _)); clear hb HB)
    have G7 : True := trivial
    go_wp2_with (go_at_call 37; clear G7; refine Calls.mono (ruint_b _ _ _ (by exact HZ.out)) ?_; rintro e w2 ⟨rfl, hb⟩; have HB := Lib.hid (hb); replace HA := Lib.hid (HA.out.step HB.out); replace HZ := Lib.hid (HZ.out.step HB.out); replace HW := Lib.hid (bstep HW.out HB.out (Nat.le_refl _)); clear hb HB)
    have G8 : True := trivial
    go_wp2_with (go_at_call 34; clear G8; refine Calls.mono (Of_any n _ hn) ?_; rintro e w2 ⟨x6, rfl, hn, hb⟩; have HB := Lib.hid (hb); replace HA := Lib.hid (HA.out.step HB.out); replace HZ := Lib.hid (HZ.out.step HB.out); replace HW := Lib.hid (bstep HW.out HB.out (Nat.le_refl _)); clear hb HB; have H6 := Lib.hid hn; clear hn)
    have G9 : True := trivial
    go_wp2_with (go_at_call 34; clear G9; refine Calls.mono (Of_any m _ hm) ?_; rintro e w2 ⟨x7, rfl, hn, hb⟩; have HB := Lib.hid (hb); replace HA := Lib.hid (HA.out.step HB.out); replace HZ := Lib.hid (HZ.out.step HB.out); replace H6 := Lib.hid (H6.out.step HB.out); replace HW := Lib.hid (bstep HW.out HB.out (Nat.le_refl _)); clear hb HB; have H7 := Lib.hid hn; clear hn)
    have G10 : True := trivial
    go_wp2_with (go_at_call 18; clear G10; refine Calls.mono (cmp_z _ _ _ _ _ _ (by exact H6.out) (by exact H7.out) (by exact HK.out)) ?_; rintro e w2 ⟨rfl, hb⟩; have HB := Lib.hid (hb); replace HA := Lib.hid (HA.out.step HB.out); replace HZ := Lib.hid (HZ.out.step HB.out); replace HW := Lib.hid (bstep HW.out HB.out (Nat.le_refl _)); clear hb HB; clear H6 H7)
    have G11 : True := trivial
    go_wp2_with (go_at_call 12; clear G11; refine Calls.mono (awake_any _) ?_; rintro e w2 ⟨rfl, hb⟩; have HB := Lib.hid (hb); replace HA := Lib.hid (HA.out.step HB.out); replace HZ := Lib.hid (HZ.out.step HB.out); replace HW := Lib.hid (bstep HW.out HB.out (Nat.le_refl _)); clear hb HB)
    go_ret
    exact ⟨by first | rfl | exact ret_bool (by simp; omega), HW.out⟩
  · have HK := Lib.hid (cmpN_same hc)
    subst hc
    go_enter Try.func7, Try.ntmps7
    have G1 : True := trivial
    go_wp2_with (go_at_call 34; clear G1; refine Calls.mono (Of_any n _ hn) ?_; rintro e w2 ⟨x3, rfl, hn, hb⟩; have HB := Lib.hid (hb); replace HA := Lib.hid (HA.out.step HB.out); replace HZ := Lib.hid (HZ.out.step HB.out); replace HW := Lib.hid (bstep HW.out HB.out (Nat.le_refl _)); clear hb HB; have H3 := Lib.hid hn; clear hn)
    have G2 : True := trivial
    go_wp2_with (go_at_call 33; clear G2; refine Calls.mono (uint_small _ n _ (by exact H3.out) hn) ?_; rintro e w2 ⟨rfl, hb⟩; have HB := Lib.hid (hb); replace HA := Lib.hid (HA.out.step HB.out); replace HZ := Lib.hid (HZ.out.step HB.out); replace HW := Lib.hid (bstep HW.out HB.out (Nat.le_refl _)); clear hb HB; clear H3)
    have G3 : True := trivial
    go_wp2_with (go_at_call 34; clear G3; refine Calls.mono (Of_any n _ hn) ?_; rintro e w2 ⟨x4, rfl, hn, hb⟩; have HB := Lib.hid (hb); replace HA := Lib.hid (HA.out.step HB.out); replace HZ := Lib.hid (HZ.out.step HB.out); replace HW := Lib.hid (bstep HW.out HB.out (Nat.le_refl _)); clear hb HB; have H4 := Lib.hid hn; clear hn)
    have G4 : True := trivial
    go_wp2_with (go_at_call 35; clear G4; refine Calls.mono (rOf_any n _ hn) ?_; rintro e w2 ⟨x5, rfl, hn, hb⟩; have HB := Lib.hid (hb); replace HA := Lib.hid (HA.out.step HB.out); replace HZ := Lib.hid (HZ.out.step HB.out); replace H4 := Lib.hid (H4.out.step HB.out); replace HW := Lib.hid (bstep HW.out HB.out (Nat.le_refl _)); clear hb HB; have H5 := Lib.hid hn; clear hn)
    have G5 : True := trivial
    go_wp2_with (go_at_call 15; clear G5; refine Calls.mono (same_b _ _ _ _ (by exact H4.out) (by exact H5.out)) ?_; rintro e w2 ⟨rfl, hb⟩; have HB := Lib.hid (hb); replace HA := Lib.hid (HA.out.step HB.out); replace HZ := Lib.hid (HZ.out.step HB.out); replace HW := Lib.hid (bstep HW.out HB.out (Nat.le_refl _)); clear hb HB; clear H4 H5)
    go_wp2_with (go_at_call 36; refine Calls.mono (right_sl _ A _ (by exact HA.out)) ?_; rw [ht]; rintro e w2 ⟨rfl, rfl⟩)
    go_wp2_with (go_at_call 30; refine Calls.mono (rright_sl _ A _ (by exact HA.out)) ?_; rw [ht]; rintro e w2 ⟨rfl, rfl⟩)
    have G6 : True := trivial
    go_wp2_with (go_at_call 33; clear G6; refine Calls.mono (uint_b _ _ _ (by exact HZ.out)) ?_; rintro e w2 ⟨rfl, hb⟩; have HB := Lib.hid (hb); replace HA := Lib.hid (HA.out.step HB.out); replace HZ := Lib.hid (HZ.out.step HB.out); replace HW := Lib.hid (bstep HW.out HB.out (Nat.le_refl _)); clear hb HB)
    have G7 : True := trivial
    go_wp2_with (go_at_call 37; clear G7; refine Calls.mono (ruint_b _ _ _ (by exact HZ.out)) ?_; rintro e w2 ⟨rfl, hb⟩; have HB := Lib.hid (hb); replace HA := Lib.hid (HA.out.step HB.out); replace HZ := Lib.hid (HZ.out.step HB.out); replace HW := Lib.hid (bstep HW.out HB.out (Nat.le_refl _)); clear hb HB)
    have G8 : True := trivial
    go_wp2_with (go_at_call 34; clear G8; refine Calls.mono (Of_any n _ hn) ?_; rintro e w2 ⟨x6, rfl, hn, hb⟩; have HB := Lib.hid (hb); replace HA := Lib.hid (HA.out.step HB.out); replace HZ := Lib.hid (HZ.out.step HB.out); replace HW := Lib.hid (bstep HW.out HB.out (Nat.le_refl _)); clear hb HB; have H6 := Lib.hid hn; clear hn)
    have G9 : True := trivial
    go_wp2_with (go_at_call 34; clear G9; refine Calls.mono (Of_any n _ hn) ?_; rintro e w2 ⟨x7, rfl, hn, hb⟩; have HB := Lib.hid (hb); replace HA := Lib.hid (HA.out.step HB.out); replace HZ := Lib.hid (HZ.out.step HB.out); replace H6 := Lib.hid (H6.out.step HB.out); replace HW := Lib.hid (bstep HW.out HB.out (Nat.le_refl _)); clear hb HB; have H7 := Lib.hid hn; clear hn)
    have G10 : True := trivial
    go_wp2_with (go_at_call 18; clear G10; refine Calls.mono (cmp_z _ _ _ _ _ _ (by exact H6.out) (by exact H7.out) (by exact HK.out)) ?_; rintro e w2 ⟨rfl, hb⟩; have HB := Lib.hid (hb); replace HA := Lib.hid (HA.out.step HB.out); replace HZ := Lib.hid (HZ.out.step HB.out); replace HW := Lib.hid (bstep HW.out HB.out (Nat.le_refl _)); clear hb HB; clear H6 H7)
    have G11 : True := trivial
    go_wp2_with (go_at_call 12; clear G11; refine Calls.mono (awake_any _) ?_; rintro e w2 ⟨rfl, hb⟩; have HB := Lib.hid (hb); replace HA := Lib.hid (HA.out.step HB.out); replace HZ := Lib.hid (HZ.out.step HB.out); replace HW := Lib.hid (bstep HW.out HB.out (Nat.le_refl _)); clear hb HB)
    go_ret
    exact ⟨by first | rfl | exact ret_bool (by simp; omega), HW.out⟩
  · have HK := Lib.hid (cmpN_gt hc)
    go_enter Try.func7, Try.ntmps7
    have G1 : True := trivial
    go_wp2_with (go_at_call 34; clear G1; refine Calls.mono (Of_any n _ hn) ?_; rintro e w2 ⟨x3, rfl, hn, hb⟩; have HB := Lib.hid (hb); replace HA := Lib.hid (HA.out.step HB.out); replace HZ := Lib.hid (HZ.out.step HB.out); replace HW := Lib.hid (bstep HW.out HB.out (Nat.le_refl _)); clear hb HB; have H3 := Lib.hid hn; clear hn)
    have G2 : True := trivial
    go_wp2_with (go_at_call 33; clear G2; refine Calls.mono (uint_small _ n _ (by exact H3.out) hn) ?_; rintro e w2 ⟨rfl, hb⟩; have HB := Lib.hid (hb); replace HA := Lib.hid (HA.out.step HB.out); replace HZ := Lib.hid (HZ.out.step HB.out); replace HW := Lib.hid (bstep HW.out HB.out (Nat.le_refl _)); clear hb HB; clear H3)
    have G3 : True := trivial
    go_wp2_with (go_at_call 34; clear G3; refine Calls.mono (Of_any n _ hn) ?_; rintro e w2 ⟨x4, rfl, hn, hb⟩; have HB := Lib.hid (hb); replace HA := Lib.hid (HA.out.step HB.out); replace HZ := Lib.hid (HZ.out.step HB.out); replace HW := Lib.hid (bstep HW.out HB.out (Nat.le_refl _)); clear hb HB; have H4 := Lib.hid hn; clear hn)
    have G4 : True := trivial
    go_wp2_with (go_at_call 35; clear G4; refine Calls.mono (rOf_any n _ hn) ?_; rintro e w2 ⟨x5, rfl, hn, hb⟩; have HB := Lib.hid (hb); replace HA := Lib.hid (HA.out.step HB.out); replace HZ := Lib.hid (HZ.out.step HB.out); replace H4 := Lib.hid (H4.out.step HB.out); replace HW := Lib.hid (bstep HW.out HB.out (Nat.le_refl _)); clear hb HB; have H5 := Lib.hid hn; clear hn)
    have G5 : True := trivial
    go_wp2_with (go_at_call 15; clear G5; refine Calls.mono (same_b _ _ _ _ (by exact H4.out) (by exact H5.out)) ?_; rintro e w2 ⟨rfl, hb⟩; have HB := Lib.hid (hb); replace HA := Lib.hid (HA.out.step HB.out); replace HZ := Lib.hid (HZ.out.step HB.out); replace HW := Lib.hid (bstep HW.out HB.out (Nat.le_refl _)); clear hb HB; clear H4 H5)
    go_wp2_with (go_at_call 36; refine Calls.mono (right_sl _ A _ (by exact HA.out)) ?_; rw [ht]; rintro e w2 ⟨rfl, rfl⟩)
    go_wp2_with (go_at_call 30; refine Calls.mono (rright_sl _ A _ (by exact HA.out)) ?_; rw [ht]; rintro e w2 ⟨rfl, rfl⟩)
    have G6 : True := trivial
    go_wp2_with (go_at_call 33; clear G6; refine Calls.mono (uint_b _ _ _ (by exact HZ.out)) ?_; rintro e w2 ⟨rfl, hb⟩; have HB := Lib.hid (hb); replace HA := Lib.hid (HA.out.step HB.out); replace HZ := Lib.hid (HZ.out.step HB.out); replace HW := Lib.hid (bstep HW.out HB.out (Nat.le_refl _)); clear hb HB)
    have G7 : True := trivial
    go_wp2_with (go_at_call 37; clear G7; refine Calls.mono (ruint_b _ _ _ (by exact HZ.out)) ?_; rintro e w2 ⟨rfl, hb⟩; have HB := Lib.hid (hb); replace HA := Lib.hid (HA.out.step HB.out); replace HZ := Lib.hid (HZ.out.step HB.out); replace HW := Lib.hid (bstep HW.out HB.out (Nat.le_refl _)); clear hb HB)
    have G8 : True := trivial
    go_wp2_with (go_at_call 34; clear G8; refine Calls.mono (Of_any n _ hn) ?_; rintro e w2 ⟨x6, rfl, hn, hb⟩; have HB := Lib.hid (hb); replace HA := Lib.hid (HA.out.step HB.out); replace HZ := Lib.hid (HZ.out.step HB.out); replace HW := Lib.hid (bstep HW.out HB.out (Nat.le_refl _)); clear hb HB; have H6 := Lib.hid hn; clear hn)
    have G9 : True := trivial
    go_wp2_with (go_at_call 34; clear G9; refine Calls.mono (Of_any m _ hm) ?_; rintro e w2 ⟨x7, rfl, hn, hb⟩; have HB := Lib.hid (hb); replace HA := Lib.hid (HA.out.step HB.out); replace HZ := Lib.hid (HZ.out.step HB.out); replace H6 := Lib.hid (H6.out.step HB.out); replace HW := Lib.hid (bstep HW.out HB.out (Nat.le_refl _)); clear hb HB; have H7 := Lib.hid hn; clear hn)
    have G10 : True := trivial
    go_wp2_with (go_at_call 18; clear G10; refine Calls.mono (cmp_z _ _ _ _ _ _ (by exact H6.out) (by exact H7.out) (by exact HK.out)) ?_; rintro e w2 ⟨rfl, hb⟩; have HB := Lib.hid (hb); replace HA := Lib.hid (HA.out.step HB.out); replace HZ := Lib.hid (HZ.out.step HB.out); replace HW := Lib.hid (bstep HW.out HB.out (Nat.le_refl _)); clear hb HB; clear H6 H7)
    have G11 : True := trivial
    go_wp2_with (go_at_call 12; clear G11; refine Calls.mono (awake_any _) ?_; rintro e w2 ⟨rfl, hb⟩; have HB := Lib.hid (hb); replace HA := Lib.hid (HA.out.step HB.out); replace HZ := Lib.hid (HZ.out.step HB.out); replace HW := Lib.hid (bstep HW.out HB.out (Nat.le_refl _)); clear hb HB)
    go_ret
    exact ⟨by first | rfl | exact ret_bool (by simp; omega), HW.out⟩
theorem natUints_any (n m : Nat) (va : Value) (A : List Nat) (w : World) (hn : n < 18446744073709551616) (hm : m < 18446744073709551616) (hA : SL w va A) : Calls Try.prog 7 #[.int .u64 n, .int .u64 m, va] w (fun e w' => e = .returned (.bool true) ∧ Below w.heap.size w w') := by
  by_cases hl : A.length ≤ 40
  · cases ht : topB A with
    | false => exact natUints_wrong n m va A w hn hm hA hl ht
    | true => exact natUints_right n m va A w hn hm hA hl ht
  · exact natUints_long n m va A w hn hm hA (by omega)
#print axioms natUints_any
end Go.Proofs.Ytdmolcopnehkbaa
