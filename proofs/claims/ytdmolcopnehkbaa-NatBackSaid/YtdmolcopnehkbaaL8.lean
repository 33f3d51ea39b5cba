/-
  The walk of NatBack.
-/
import Derived.Test.YtdmolcopnehkbaaW20
set_option autoImplicit false
namespace Go.Proofs.Ytdmolcopnehkbaa
open Go.RowKit

theorem shl_shr (a k : Nat) (h : k ≤ 255) : shrN (shlN a k) k = a := by
  unfold shrN shlN
  rw [if_pos (by omega), if_pos (by omega), Int.toNat_natCast, Nat.mul_div_cancel _ (Nat.pow_pos (by decide))]
theorem shl_pow (a k : Nat) (h : k ≤ 255) : a * powN 2 k = shlN a k := by
  unfold powN shlN
  rw [if_pos (by omega), if_pos (by omega), Int.toNat_natCast]
theorem shl_len_add (a k : Nat) (h : k ≤ 255) (h0 : a ≠ 0) : nlen (shlN a k) = nlen a + k := by
  unfold shlN
  rw [if_pos (by omega), Int.toNat_natCast]
  exact nlen_shift a k h0
theorem pow2_lt (k : Nat) (h : k ≤ 255) : powN 2 k < B 8 := by
  unfold powN
  rw [if_pos (by omega), Int.toNat_natCast]
  exact Nat.lt_of_le_of_lt (Nat.pow_le_pow_right (by decide) h) (by decide)
theorem nlen_le {a k : Nat} (h : a < B k) : nlen a ≤ 32 * k := by
  unfold nlen
  split
  · omega
  · have h1 : a.log2 < 32 * k := (Nat.log2_lt (by assumption)).2 (by rw [Nat.pow_mul]; exact h)
    omega
theorem sub_add (va vc : Value) (a c : Nat) (w : World) (hA : RN w va (a + c)) (hC : RN w vc c) : Calls Try.prog 13 #[va, vc] w (fun e w' => ∃ u, e = .returned (.tuple #[u, .bool true]) ∧ RN w' u a ∧ Below w.heap.size w w') := by
  refine (sub_rn va vc (a + c) c w hA hC).mono ?_
  rintro e w' ⟨u, rfl, h1, h2⟩
  rw [Nat.add_sub_cancel] at h1
  exact ⟨u, by rw [decide_eq_true (Nat.le_add_left c a)], h1, h2⟩
/-- the quotient by a factor, and no rest -/
theorem div_mul (va vc : Value) (a c : Nat) (w : World) (hA : RN w va (a * c)) (hC : RN w vc c) (k : Nat) (hk : a * c < B k) (hk' : k ≤ 1048576) (hc : c ≠ 0) :
    Calls Try.prog 20 #[va, vc] w (fun e w' => ∃ u ro rcap, e = .returned (.tuple #[u, .slice ro 0 rcap, .bool true]) ∧ RN w' u a ∧ Below w.heap.size w w') := by
  refine (div_pos va vc (a * c) c w hA hC k hk hk' hc).mono ?_
  rintro e w' ⟨u, v, rfl, h1, h2, h3⟩
  rw [Nat.mul_div_cancel _ (Nat.pos_of_ne_zero hc)] at h1
  rw [Nat.mul_mod_left] at h2
  obtain ⟨R, ⟨ro, rn, rcap, rfl, hR⟩, tR, vR⟩ := h2
  have : R = [] := (val_eq_zero_iff tR).1 vR
  have hn : rn = 0 := by rw [← hR.len, this]; rfl
  subst hn
  exact ⟨u, ro, rcap, rfl, h1, h3⟩

set_option maxHeartbeats 1600000 in
theorem natBack_no (va vc : Value) (n : Nat) (A C : List Nat) (w : World) (hA : SL w va A) (hC : SL w vc C) (_hn : n ≤ 255) (hm : mayB A C = false) : Calls Try.prog 8 #[va, vc, .int .u8 n] w (fun e w' => e = .returned (.bool true) ∧ Below w.heap.size w w') := by
  have HM := Lib.hid hm
  have HA := Lib.hid hA
  have HC := Lib.hid hC
  clear hA hC hm
  go_enter Try.func8, Try.ntmps8
  go_wp2_with (first | (go_at_call 11; refine Calls.mono (may_no _ _ A C _ (by exact HA.out) (by exact HC.out) (by exact HM.out)) ?_; rintro e w2 ⟨rfl, rfl⟩) | (go_at_call 12; refine Calls.mono (awake_any _) ?_; rintro e w2 ⟨rfl, hb⟩))
  go_ret
  exact ⟨rfl, hb⟩
set_option maxHeartbeats 1600000 in
theorem natBack_00 (va vc : Value) (n : Nat) (A C : List Nat) (w : World) (hA : SL w va A) (hC : SL w vc C) (hn : n ≤ 255) (hm : mayB A C = true) (hl : C.length = 0) (hz : A.length = 0) : Calls Try.prog 8 #[va, vc, .int .u8 n] w (fun e w' => e = .returned (.bool true) ∧ Below w.heap.size w w') := by
  obtain ⟨co, m, cap', rfl, hC'⟩ := hC
  have hC : SL w (.slice co m cap') C := ⟨_, _, _, rfl, hC'⟩
  obtain ⟨ao, l, cap, rfl, hA'⟩ := hA
  have hA : SL w (.slice ao l cap) A := ⟨_, _, _, rfl, hA'⟩
  have HM := Lib.hid hm
  have HA := Lib.hid hA
  have HC := Lib.hid hC
  obtain ⟨l1, l2, t1, t2⟩ := mayB.parts hm
  have BA := Lib.hid (val_B hA l1)
  have BC := Lib.hid (val_B hC l2)
  have H1 := Lib.hid (show RN w (.slice ao l cap) (val A) from ⟨A, hA, Top.of t1, rfl⟩)
  have H2 := Lib.hid (show RN w (.slice co m cap') (val C) from ⟨C, hC, Top.of t2, rfl⟩)
  have HW := Lib.hid (Below.refl w.heap.size w)
  have hm0 : m = 0 := by rw [← hC'.len, hl]
  subst hm0
  have hc0 : val C = 0 := val_zero hl
  rw [hc0] at H2
  have hz0 : l = 0 := by rw [← hA'.len, hz]
  subst hz0
  have BM : Hid (val A * 0 < B 80) := by show _ < _; rw [Nat.mul_zero]; exact B_pos 80
  have HS := Lib.hid (shl_shr (val A) n hn)
  have HP := Lib.hid (shl_pow (val A) n hn)
  have BP := Lib.hid (pow2_lt n hn)
  have BZ : Hid (0 < B 40) := B_pos 40
  clear hA hC hA' hC' hm hl hz t1 t2 l1 l2 hc0 BC
  go_enter Try.func8, Try.ntmps8
  go_wp2_with (go_at_call 11; refine Calls.mono (may_yes _ _ A C _ (by exact HA.out) (by exact HC.out) (by exact HM.out)) ?_; rintro e w2 ⟨rfl, rfl⟩)
  clear HA HC
  have G1 : True := trivial
  go_wp2_with (go_at_call 16; clear G1; refine Calls.mono (add_rn _ _ (val A) 0 _ (by exact H1.out) (by exact H2.out) 40 40 (by exact BA.out) (by exact BZ.out) (by omega) (by omega)) ?_; rintro e w2 ⟨x3, rfl, hn, hb⟩; have HB := Lib.hid (hb); replace H1 := Lib.hid (H1.out.step HB.out); replace H2 := Lib.hid (H2.out.step HB.out); replace HW := Lib.hid (bstep HW.out HB.out (Nat.le_refl _)); clear hb HB; have H3 := Lib.hid hn; clear hn)
  have G2 : True := trivial
  go_wp2_with (go_at_call 13; clear G2; refine Calls.mono (sub_add _ _ (val A) 0 _ (by exact H3.out) (by exact H2.out)) ?_; rintro e w2 ⟨x4, rfl, hn, hb⟩; have HB := Lib.hid (hb); replace H1 := Lib.hid (H1.out.step HB.out); replace H2 := Lib.hid (H2.out.step HB.out); replace HW := Lib.hid (bstep HW.out HB.out (Nat.le_refl _)); clear hb HB; clear H3; have H4 := Lib.hid hn; clear hn)
  have G3 : True := trivial
  go_wp2_with (go_at_call 22; clear G3; refine Calls.mono (mul_rn _ _ (val A) 0 _ (by exact H1.out) (by exact H2.out) 40 40 (by exact BA.out) (by exact BZ.out) (by omega) (by omega)) ?_; rintro e w2 ⟨x5, rfl, hn, hb⟩; have HB := Lib.hid (hb); replace H1 := Lib.hid (H1.out.step HB.out); replace H2 := Lib.hid (H2.out.step HB.out); replace H4 := Lib.hid (H4.out.step HB.out); replace HW := Lib.hid (bstep HW.out HB.out (Nat.le_refl _)); clear hb HB; have H5 := Lib.hid hn; clear hn)
  have G4 : True := trivial
  go_wp2_with (go_at_call 20; clear G4; refine Calls.mono (div_nil _ _ _ _ (by exact H5.out) (by exact H2.out) 80 (by exact BM.out) (by omega)) ?_; rintro e w2 ⟨x6, x7, rfl, hb⟩; have HB := Lib.hid (hb); replace H1 := Lib.hid (H1.out.step HB.out); replace H2 := Lib.hid (H2.out.step HB.out); replace H4 := Lib.hid (H4.out.step HB.out); replace H5 := Lib.hid (H5.out.step HB.out); replace HW := Lib.hid (bstep HW.out HB.out (Nat.le_refl _)); clear hb HB)
  have G5 : True := trivial
  go_wp2_with (go_at_call 15; clear G5; refine Calls.mono (same_b _ _ _ _ (by exact H4.out) (by exact H1.out)) ?_; rintro e w2 ⟨rfl, hb⟩; have HB := Lib.hid (hb); replace H1 := Lib.hid (H1.out.step HB.out); replace H2 := Lib.hid (H2.out.step HB.out); replace H5 := Lib.hid (H5.out.step HB.out); replace HW := Lib.hid (bstep HW.out HB.out (Nat.le_refl _)); clear hb HB; clear H4)
  have G6 : True := trivial
  go_wp2_with (go_at_call 12; clear G6; refine Calls.mono (awake_any _) ?_; rintro e w2 ⟨rfl, hb⟩; have HB := Lib.hid (hb); replace H1 := Lib.hid (H1.out.step HB.out); replace H2 := Lib.hid (H2.out.step HB.out); replace H5 := Lib.hid (H5.out.step HB.out); replace HW := Lib.hid (bstep HW.out HB.out (Nat.le_refl _)); clear hb HB)
  have G7 : True := trivial
  go_wp2_with (go_at_call 24; clear G7; refine Calls.mono (shl_b _ _ n _ (by exact H1.out) 40 (by exact BA.out) (by omega)) ?_; rintro e w2 ⟨x7, rfl, hn, hb⟩; have HB := Lib.hid (hb); replace H1 := Lib.hid (H1.out.step HB.out); replace H2 := Lib.hid (H2.out.step HB.out); replace H5 := Lib.hid (H5.out.step HB.out); replace HW := Lib.hid (bstep HW.out HB.out (Nat.le_refl _)); clear hb HB; have H7 := Lib.hid hn; clear hn)
  have G8 : True := trivial
  go_wp2_with (go_at_call 26; clear G8; refine Calls.mono (shr_b _ _ n _ (by exact H7.out)) ?_; rintro e w2 ⟨x8, rfl, hn, hb⟩; have HB := Lib.hid (hb); replace H1 := Lib.hid (H1.out.step HB.out); replace H2 := Lib.hid (H2.out.step HB.out); replace H5 := Lib.hid (H5.out.step HB.out); replace HW := Lib.hid (bstep HW.out HB.out (Nat.le_refl _)); clear hb HB; clear H7; have H8 := Lib.hid hn; clear hn)
  have G9 : True := trivial
  go_wp2_with (go_at_call 15; clear G9; refine Calls.mono (same_b _ _ _ _ (by have h := H8.out; rw [HS.out] at h; exact h) (by exact H1.out)) ?_; rintro e w2 ⟨rfl, hb⟩; have HB := Lib.hid (hb); replace H1 := Lib.hid (H1.out.step HB.out); replace H2 := Lib.hid (H2.out.step HB.out); replace H5 := Lib.hid (H5.out.step HB.out); replace HW := Lib.hid (bstep HW.out HB.out (Nat.le_refl _)); clear hb HB; clear H8)
  have G10 : True := trivial
  go_wp2_with (go_at_call 24; clear G10; refine Calls.mono (shl_b _ _ n _ (by exact H1.out) 40 (by exact BA.out) (by omega)) ?_; rintro e w2 ⟨x7, rfl, hn, hb⟩; have HB := Lib.hid (hb); replace H1 := Lib.hid (H1.out.step HB.out); replace H2 := Lib.hid (H2.out.step HB.out); replace H5 := Lib.hid (H5.out.step HB.out); replace HW := Lib.hid (bstep HW.out HB.out (Nat.le_refl _)); clear hb HB; have H7 := Lib.hid hn; clear hn)
  have G11 : True := trivial
  go_wp2_with (go_at_call 31; clear G11; refine Calls.mono (pow_rn _ 2 n _ (by exact RN_new _ _ [2] _ 2 _ (by simp) rfl rfl rfl (by decide) rfl rfl) 1 (by decide) (by omega)) ?_; rintro e w2 ⟨x8, rfl, hn, hb⟩; have HB := Lib.hid (bfresh hb); replace H1 := Lib.hid (H1.out.step HB.out); replace H2 := Lib.hid (H2.out.step HB.out); replace H5 := Lib.hid (H5.out.step HB.out); replace H7 := Lib.hid (H7.out.step HB.out); replace HW := Lib.hid (bstep HW.out HB.out (Nat.le_refl _)); clear hb HB; have H8 := Lib.hid hn; clear hn)
  have G12 : True := trivial
  go_wp2_with (go_at_call 22; clear G12; refine Calls.mono (mul_rn _ _ (val A) (powN 2 n) _ (by exact H1.out) (by exact H8.out) 40 8 (by exact BA.out) (by exact BP.out) (by omega) (by omega)) ?_; rintro e w2 ⟨x9, rfl, hn, hb⟩; have HB := Lib.hid (hb); replace H1 := Lib.hid (H1.out.step HB.out); replace H2 := Lib.hid (H2.out.step HB.out); replace H5 := Lib.hid (H5.out.step HB.out); replace H7 := Lib.hid (H7.out.step HB.out); replace HW := Lib.hid (bstep HW.out HB.out (Nat.le_refl _)); clear hb HB; clear H8; have H9 := Lib.hid hn; clear hn)
  have G13 : True := trivial
  go_wp2_with (go_at_call 15; clear G13; refine Calls.mono (same_b _ _ _ _ (by exact H7.out) (by have h := H9.out; rw [HP.out] at h; exact h)) ?_; rintro e w2 ⟨rfl, hb⟩; have HB := Lib.hid (hb); replace H1 := Lib.hid (H1.out.step HB.out); replace H2 := Lib.hid (H2.out.step HB.out); replace H5 := Lib.hid (H5.out.step HB.out); replace HW := Lib.hid (bstep HW.out HB.out (Nat.le_refl _)); clear hb HB; clear H7 H9)
  go_ret
  exact ⟨by first | rfl | exact ret_bool (by simp; omega), HW.out⟩
set_option maxHeartbeats 1600000 in
theorem natBack_01 (va vc : Value) (n : Nat) (A C : List Nat) (w : World) (hA : SL w va A) (hC : SL w vc C) (hn : n ≤ 255) (hm : mayB A C = true) (hl : C.length = 0) (hz : A.length ≠ 0) : Calls Try.prog 8 #[va, vc, .int .u8 n] w (fun e w' => e = .returned (.bool true) ∧ Below w.heap.size w w') := by
  obtain ⟨co, m, cap', rfl, hC'⟩ := hC
  have hC : SL w (.slice co m cap') C := ⟨_, _, _, rfl, hC'⟩
  obtain ⟨ao, l, cap, rfl, hA'⟩ := hA
  have hA : SL w (.slice ao l cap) A := ⟨_, _, _, rfl, hA'⟩
  have HM := Lib.hid hm
  have HA := Lib.hid hA
  have HC := Lib.hid hC
  obtain ⟨l1, l2, t1, t2⟩ := mayB.parts hm
  have BA := Lib.hid (val_B hA l1)
  have BC := Lib.hid (val_B hC l2)
  have H1 := Lib.hid (show RN w (.slice ao l cap) (val A) from ⟨A, hA, Top.of t1, rfl⟩)
  have H2 := Lib.hid (show RN w (.slice co m cap') (val C) from ⟨C, hC, Top.of t2, rfl⟩)
  have HW := Lib.hid (Below.refl w.heap.size w)
  have hm0 : m = 0 := by rw [← hC'.len, hl]
  subst hm0
  have hc0 : val C = 0 := val_zero hl
  rw [hc0] at H2
  have hz0 : ((l : Int) == 0) = false := by have := hA'.len; simp; omega
  have HLE := Lib.hid (shl_len_add (val A) n hn (fun e => hz (by rw [(val_eq_zero_iff (Top.of t1)).1 e]; rfl)))
  have hnl := nlen_le BA.out
  rw [show 32 * 40 = 1280 from rfl] at hnl
  have BM : Hid (val A * 0 < B 80) := by show _ < _; rw [Nat.mul_zero]; exact B_pos 80
  have HS := Lib.hid (shl_shr (val A) n hn)
  have HP := Lib.hid (shl_pow (val A) n hn)
  have BP := Lib.hid (pow2_lt n hn)
  have BZ : Hid (0 < B 40) := B_pos 40
  clear hA hC hA' hC' hm hl hz t1 t2 l1 l2 hc0 BC
  go_enter Try.func8, Try.ntmps8
  go_wp2_with (go_at_call 11; refine Calls.mono (may_yes _ _ A C _ (by exact HA.out) (by exact HC.out) (by exact HM.out)) ?_; rintro e w2 ⟨rfl, rfl⟩)
  clear HA HC
  have G1 : True := trivial
  go_wp2_with (go_at_call 16; clear G1; refine Calls.mono (add_rn _ _ (val A) 0 _ (by exact H1.out) (by exact H2.out) 40 40 (by exact BA.out) (by exact BZ.out) (by omega) (by omega)) ?_; rintro e w2 ⟨x3, rfl, hn, hb⟩; have HB := Lib.hid (hb); replace H1 := Lib.hid (H1.out.step HB.out); replace H2 := Lib.hid (H2.out.step HB.out); replace HW := Lib.hid (bstep HW.out HB.out (Nat.le_refl _)); clear hb HB; have H3 := Lib.hid hn; clear hn)
  have G2 : True := trivial
  go_wp2_with (go_at_call 13; clear G2; refine Calls.mono (sub_add _ _ (val A) 0 _ (by exact H3.out) (by exact H2.out)) ?_; rintro e w2 ⟨x4, rfl, hn, hb⟩; have HB := Lib.hid (hb); replace H1 := Lib.hid (H1.out.step HB.out); replace H2 := Lib.hid (H2.out.step HB.out); replace HW := Lib.hid (bstep HW.out HB.out (Nat.le_refl _)); clear hb HB; clear H3; have H4 := Lib.hid hn; clear hn)
  have G3 : True := trivial
  go_wp2_with (go_at_call 22; clear G3; refine Calls.mono (mul_rn _ _ (val A) 0 _ (by exact H1.out) (by exact H2.out) 40 40 (by exact BA.out) (by exact BZ.out) (by omega) (by omega)) ?_; rintro e w2 ⟨x5, rfl, hn, hb⟩; have HB := Lib.hid (hb); replace H1 := Lib.hid (H1.out.step HB.out); replace H2 := Lib.hid (H2.out.step HB.out); replace H4 := Lib.hid (H4.out.step HB.out); replace HW := Lib.hid (bstep HW.out HB.out (Nat.le_refl _)); clear hb HB; have H5 := Lib.hid hn; clear hn)
  have G4 : True := trivial
  go_wp2_with (go_at_call 20; clear G4; refine Calls.mono (div_nil _ _ _ _ (by exact H5.out) (by exact H2.out) 80 (by exact BM.out) (by omega)) ?_; rintro e w2 ⟨x6, x7, rfl, hb⟩; have HB := Lib.hid (hb); replace H1 := Lib.hid (H1.out.step HB.out); replace H2 := Lib.hid (H2.out.step HB.out); replace H4 := Lib.hid (H4.out.step HB.out); replace H5 := Lib.hid (H5.out.step HB.out); replace HW := Lib.hid (bstep HW.out HB.out (Nat.le_refl _)); clear hb HB)
  have G5 : True := trivial
  go_wp2_with (go_at_call 15; clear G5; refine Calls.mono (same_b _ _ _ _ (by exact H4.out) (by exact H1.out)) ?_; rintro e w2 ⟨rfl, hb⟩; have HB := Lib.hid (hb); replace H1 := Lib.hid (H1.out.step HB.out); replace H2 := Lib.hid (H2.out.step HB.out); replace H5 := Lib.hid (H5.out.step HB.out); replace HW := Lib.hid (bstep HW.out HB.out (Nat.le_refl _)); clear hb HB; clear H4)
  have G6 : True := trivial
  go_wp2_with (go_at_call 12; clear G6; refine Calls.mono (awake_any _) ?_; rintro e w2 ⟨rfl, hb⟩; have HB := Lib.hid (hb); replace H1 := Lib.hid (H1.out.step HB.out); replace H2 := Lib.hid (H2.out.step HB.out); replace H5 := Lib.hid (H5.out.step HB.out); replace HW := Lib.hid (bstep HW.out HB.out (Nat.le_refl _)); clear hb HB)
  have G7 : True := trivial
  go_wp2_with (go_at_call 24; clear G7; refine Calls.mono (shl_b _ _ n _ (by exact H1.out) 40 (by exact BA.out) (by omega)) ?_; rintro e w2 ⟨x7, rfl, hn, hb⟩; have HB := Lib.hid (hb); replace H1 := Lib.hid (H1.out.step HB.out); replace H2 := Lib.hid (H2.out.step HB.out); replace H5 := Lib.hid (H5.out.step HB.out); replace HW := Lib.hid (bstep HW.out HB.out (Nat.le_refl _)); clear hb HB; have H7 := Lib.hid hn; clear hn)
  have G8 : True := trivial
  go_wp2_with (go_at_call 26; clear G8; refine Calls.mono (shr_b _ _ n _ (by exact H7.out)) ?_; rintro e w2 ⟨x8, rfl, hn, hb⟩; have HB := Lib.hid (hb); replace H1 := Lib.hid (H1.out.step HB.out); replace H2 := Lib.hid (H2.out.step HB.out); replace H5 := Lib.hid (H5.out.step HB.out); replace HW := Lib.hid (bstep HW.out HB.out (Nat.le_refl _)); clear hb HB; clear H7; have H8 := Lib.hid hn; clear hn)
  have G9 : True := trivial
  go_wp2_with (go_at_call 15; clear G9; refine Calls.mono (same_b _ _ _ _ (by have h := H8.out; rw [HS.out] at h; exact h) (by exact H1.out)) ?_; rintro e w2 ⟨rfl, hb⟩; have HB := Lib.hid (hb); replace H1 := Lib.hid (H1.out.step HB.out); replace H2 := Lib.hid (H2.out.step HB.out); replace H5 := Lib.hid (H5.out.step HB.out); replace HW := Lib.hid (bstep HW.out HB.out (Nat.le_refl _)); clear hb HB; clear H8)
  have G10 : True := trivial
  go_wp2_with (go_at_call 24; clear G10; refine Calls.mono (shl_b _ _ n _ (by exact H1.out) 40 (by exact BA.out) (by omega)) ?_; rintro e w2 ⟨x7, rfl, hn, hb⟩; have HB := Lib.hid (hb); replace H1 := Lib.hid (H1.out.step HB.out); replace H2 := Lib.hid (H2.out.step HB.out); replace H5 := Lib.hid (H5.out.step HB.out); replace HW := Lib.hid (bstep HW.out HB.out (Nat.le_refl _)); clear hb HB; have H7 := Lib.hid hn; clear hn)
  have G11 : True := trivial
  go_wp2_with (go_at_call 31; clear G11; refine Calls.mono (pow_rn _ 2 n _ (by exact RN_new _ _ [2] _ 2 _ (by simp) rfl rfl rfl (by decide) rfl rfl) 1 (by decide) (by omega)) ?_; rintro e w2 ⟨x8, rfl, hn, hb⟩; have HB := Lib.hid (bfresh hb); replace H1 := Lib.hid (H1.out.step HB.out); replace H2 := Lib.hid (H2.out.step HB.out); replace H5 := Lib.hid (H5.out.step HB.out); replace H7 := Lib.hid (H7.out.step HB.out); replace HW := Lib.hid (bstep HW.out HB.out (Nat.le_refl _)); clear hb HB; have H8 := Lib.hid hn; clear hn)
  have G12 : True := trivial
  go_wp2_with (go_at_call 22; clear G12; refine Calls.mono (mul_rn _ _ (val A) (powN 2 n) _ (by exact H1.out) (by exact H8.out) 40 8 (by exact BA.out) (by exact BP.out) (by omega) (by omega)) ?_; rintro e w2 ⟨x9, rfl, hn, hb⟩; have HB := Lib.hid (hb); replace H1 := Lib.hid (H1.out.step HB.out); replace H2 := Lib.hid (H2.out.step HB.out); replace H5 := Lib.hid (H5.out.step HB.out); replace H7 := Lib.hid (H7.out.step HB.out); replace HW := Lib.hid (bstep HW.out HB.out (Nat.le_refl _)); clear hb HB; clear H8; have H9 := Lib.hid hn; clear hn)
  have G13 : True := trivial
  go_wp2_with (go_at_call 15; clear G13; refine Calls.mono (same_b _ _ _ _ (by exact H7.out) (by have h := H9.out; rw [HP.out] at h; exact h)) ?_; rintro e w2 ⟨rfl, hb⟩; have HB := Lib.hid (hb); replace H1 := Lib.hid (H1.out.step HB.out); replace H2 := Lib.hid (H2.out.step HB.out); replace H5 := Lib.hid (H5.out.step HB.out); replace HW := Lib.hid (bstep HW.out HB.out (Nat.le_refl _)); clear hb HB; clear H7 H9)
  have G14 : True := trivial
  go_wp2_with (go_at_call 24; clear G14; refine Calls.mono (shl_b _ _ n _ (by exact H1.out) 40 (by exact BA.out) (by omega)) ?_; rintro e w2 ⟨x7, rfl, hn, hb⟩; have HB := Lib.hid (hb); replace H1 := Lib.hid (H1.out.step HB.out); replace H2 := Lib.hid (H2.out.step HB.out); replace H5 := Lib.hid (H5.out.step HB.out); replace HW := Lib.hid (bstep HW.out HB.out (Nat.le_refl _)); clear hb HB; have H7 := Lib.hid hn; clear hn)
  have G91 : True := trivial
  go_wp2_with (first | (go_at_call 28; clear G91; refine Calls.mono (len_rn _ _ _ (by exact H7.out)) ?_; rw [HLE.out]; rintro e w2 ⟨rfl, rfl⟩) | (go_at_call 28; refine Calls.mono (len_rn _ _ _ (by exact H1.out)) ?_; rintro e w2 ⟨rfl, rfl⟩))
  go_ret
  exact ⟨by first | rfl | exact ret_bool (by simp; omega), HW.out⟩
set_option maxHeartbeats 1600000 in
theorem natBack_10 (va vc : Value) (n : Nat) (A C : List Nat) (w : World) (hA : SL w va A) (hC : SL w vc C) (hn : n ≤ 255) (hm : mayB A C = true) (hl : C.length ≠ 0) (hz : A.length = 0) : Calls Try.prog 8 #[va, vc, .int .u8 n] w (fun e w' => e = .returned (.bool true) ∧ Below w.heap.size w w') := by
  obtain ⟨co, m, cap', rfl, hC'⟩ := hC
  have hC : SL w (.slice co m cap') C := ⟨_, _, _, rfl, hC'⟩
  obtain ⟨ao, l, cap, rfl, hA'⟩ := hA
  have hA : SL w (.slice ao l cap) A := ⟨_, _, _, rfl, hA'⟩
  have HM := Lib.hid hm
  have HA := Lib.hid hA
  have HC := Lib.hid hC
  obtain ⟨l1, l2, t1, t2⟩ := mayB.parts hm
  have BA := Lib.hid (val_B hA l1)
  have BC := Lib.hid (val_B hC l2)
  have H1 := Lib.hid (show RN w (.slice ao l cap) (val A) from ⟨A, hA, Top.of t1, rfl⟩)
  have H2 := Lib.hid (show RN w (.slice co m cap') (val C) from ⟨C, hC, Top.of t2, rfl⟩)
  have HW := Lib.hid (Below.refl w.heap.size w)
  have hm0 : 0 < m := by have := hC'.len; omega
  have hc0 : val C ≠ 0 := fun e => hl (by rw [(val_eq_zero_iff (Top.of t2)).1 e]; rfl)
  have HC0 := Lib.hid hc0
  have hz0 : l = 0 := by rw [← hA'.len, hz]
  subst hz0
  have BM : Hid (val A * val C < B 80) := by show _ < B (40 + 40); rw [B_add]; exact Nat.mul_lt_mul_of_lt_of_le BA.out (Nat.le_of_lt BC.out) (B_pos _)
  have HS := Lib.hid (shl_shr (val A) n hn)
  have HP := Lib.hid (shl_pow (val A) n hn)
  have BP := Lib.hid (pow2_lt n hn)
  clear hA hC hA' hC' hm hl hz t1 t2 l1 l2 hc0
  go_enter Try.func8, Try.ntmps8
  go_wp2_with (go_at_call 11; refine Calls.mono (may_yes _ _ A C _ (by exact HA.out) (by exact HC.out) (by exact HM.out)) ?_; rintro e w2 ⟨rfl, rfl⟩)
  clear HA HC
  have G1 : True := trivial
  go_wp2_with (go_at_call 16; clear G1; refine Calls.mono (add_rn _ _ (val A) (val C) _ (by exact H1.out) (by exact H2.out) 40 40 (by exact BA.out) (by exact BC.out) (by omega) (by omega)) ?_; rintro e w2 ⟨x3, rfl, hn, hb⟩; have HB := Lib.hid (hb); replace H1 := Lib.hid (H1.out.step HB.out); replace H2 := Lib.hid (H2.out.step HB.out); replace HW := Lib.hid (bstep HW.out HB.out (Nat.le_refl _)); clear hb HB; have H3 := Lib.hid hn; clear hn)
  have G2 : True := trivial
  go_wp2_with (go_at_call 13; clear G2; refine Calls.mono (sub_add _ _ (val A) (val C) _ (by exact H3.out) (by exact H2.out)) ?_; rintro e w2 ⟨x4, rfl, hn, hb⟩; have HB := Lib.hid (hb); replace H1 := Lib.hid (H1.out.step HB.out); replace H2 := Lib.hid (H2.out.step HB.out); replace HW := Lib.hid (bstep HW.out HB.out (Nat.le_refl _)); clear hb HB; clear H3; have H4 := Lib.hid hn; clear hn)
  have G3 : True := trivial
  go_wp2_with (go_at_call 22; clear G3; refine Calls.mono (mul_rn _ _ (val A) (val C) _ (by exact H1.out) (by exact H2.out) 40 40 (by exact BA.out) (by exact BC.out) (by omega) (by omega)) ?_; rintro e w2 ⟨x5, rfl, hn, hb⟩; have HB := Lib.hid (hb); replace H1 := Lib.hid (H1.out.step HB.out); replace H2 := Lib.hid (H2.out.step HB.out); replace H4 := Lib.hid (H4.out.step HB.out); replace HW := Lib.hid (bstep HW.out HB.out (Nat.le_refl _)); clear hb HB; have H5 := Lib.hid hn; clear hn)
  have G4 : True := trivial
  go_wp2_with (go_at_call 20; clear G4; refine Calls.mono (div_mul _ _ (val A) (val C) _ (by exact H5.out) (by exact H2.out) 80 (by exact BM.out) (by omega) (by exact HC0.out)) ?_; rintro e w2 ⟨x6, ro, rcap, rfl, hn', hb⟩; have HB := Lib.hid (hb); replace H1 := Lib.hid (H1.out.step HB.out); replace H2 := Lib.hid (H2.out.step HB.out); replace H4 := Lib.hid (H4.out.step HB.out); replace H5 := Lib.hid (H5.out.step HB.out); replace HW := Lib.hid (bstep HW.out HB.out (Nat.le_refl _)); clear hb HB; have H6 := Lib.hid hn'; clear hn')
  have G5 : True := trivial
  go_wp2_with (go_at_call 15; clear G5; refine Calls.mono (same_b _ _ _ _ (by exact H4.out) (by exact H1.out)) ?_; rintro e w2 ⟨rfl, hb⟩; have HB := Lib.hid (hb); replace H1 := Lib.hid (H1.out.step HB.out); replace H2 := Lib.hid (H2.out.step HB.out); replace H5 := Lib.hid (H5.out.step HB.out); replace H6 := Lib.hid (H6.out.step HB.out); replace HW := Lib.hid (bstep HW.out HB.out (Nat.le_refl _)); clear hb HB; clear H4)
  have G6 : True := trivial
  go_wp2_with (go_at_call 15; clear G6; refine Calls.mono (same_b _ _ _ _ (by exact H6.out) (by exact H1.out)) ?_; rintro e w2 ⟨rfl, hb⟩; have HB := Lib.hid (hb); replace H1 := Lib.hid (H1.out.step HB.out); replace H2 := Lib.hid (H2.out.step HB.out); replace H5 := Lib.hid (H5.out.step HB.out); replace HW := Lib.hid (bstep HW.out HB.out (Nat.le_refl _)); clear hb HB; clear H6)
  have G7 : True := trivial
  go_wp2_with (go_at_call 12; clear G7; refine Calls.mono (awake_any _) ?_; rintro e w2 ⟨rfl, hb⟩; have HB := Lib.hid (hb); replace H1 := Lib.hid (H1.out.step HB.out); replace H2 := Lib.hid (H2.out.step HB.out); replace H5 := Lib.hid (H5.out.step HB.out); replace HW := Lib.hid (bstep HW.out HB.out (Nat.le_refl _)); clear hb HB)
  have G8 : True := trivial
  go_wp2_with (go_at_call 24; clear G8; refine Calls.mono (shl_b _ _ n _ (by exact H1.out) 40 (by exact BA.out) (by omega)) ?_; rintro e w2 ⟨x7, rfl, hn, hb⟩; have HB := Lib.hid (hb); replace H1 := Lib.hid (H1.out.step HB.out); replace H2 := Lib.hid (H2.out.step HB.out); replace H5 := Lib.hid (H5.out.step HB.out); replace HW := Lib.hid (bstep HW.out HB.out (Nat.le_refl _)); clear hb HB; have H7 := Lib.hid hn; clear hn)
  have G9 : True := trivial
  go_wp2_with (go_at_call 26; clear G9; refine Calls.mono (shr_b _ _ n _ (by exact H7.out)) ?_; rintro e w2 ⟨x8, rfl, hn, hb⟩; have HB := Lib.hid (hb); replace H1 := Lib.hid (H1.out.step HB.out); replace H2 := Lib.hid (H2.out.step HB.out); replace H5 := Lib.hid (H5.out.step HB.out); replace HW := Lib.hid (bstep HW.out HB.out (Nat.le_refl _)); clear hb HB; clear H7; have H8 := Lib.hid hn; clear hn)
  have G10 : True := trivial
  go_wp2_with (go_at_call 15; clear G10; refine Calls.mono (same_b _ _ _ _ (by have h := H8.out; rw [HS.out] at h; exact h) (by exact H1.out)) ?_; rintro e w2 ⟨rfl, hb⟩; have HB := Lib.hid (hb); replace H1 := Lib.hid (H1.out.step HB.out); replace H2 := Lib.hid (H2.out.step HB.out); replace H5 := Lib.hid (H5.out.step HB.out); replace HW := Lib.hid (bstep HW.out HB.out (Nat.le_refl _)); clear hb HB; clear H8)
  have G11 : True := trivial
  go_wp2_with (go_at_call 24; clear G11; refine Calls.mono (shl_b _ _ n _ (by exact H1.out) 40 (by exact BA.out) (by omega)) ?_; rintro e w2 ⟨x7, rfl, hn, hb⟩; have HB := Lib.hid (hb); replace H1 := Lib.hid (H1.out.step HB.out); replace H2 := Lib.hid (H2.out.step HB.out); replace H5 := Lib.hid (H5.out.step HB.out); replace HW := Lib.hid (bstep HW.out HB.out (Nat.le_refl _)); clear hb HB; have H7 := Lib.hid hn; clear hn)
  have G12 : True := trivial
  go_wp2_with (go_at_call 31; clear G12; refine Calls.mono (pow_rn _ 2 n _ (by exact RN_new _ _ [2] _ 2 _ (by simp) rfl rfl rfl (by decide) rfl rfl) 1 (by decide) (by omega)) ?_; rintro e w2 ⟨x8, rfl, hn, hb⟩; have HB := Lib.hid (bfresh hb); replace H1 := Lib.hid (H1.out.step HB.out); replace H2 := Lib.hid (H2.out.step HB.out); replace H5 := Lib.hid (H5.out.step HB.out); replace H7 := Lib.hid (H7.out.step HB.out); replace HW := Lib.hid (bstep HW.out HB.out (Nat.le_refl _)); clear hb HB; have H8 := Lib.hid hn; clear hn)
  have G13 : True := trivial
  go_wp2_with (go_at_call 22; clear G13; refine Calls.mono (mul_rn _ _ (val A) (powN 2 n) _ (by exact H1.out) (by exact H8.out) 40 8 (by exact BA.out) (by exact BP.out) (by omega) (by omega)) ?_; rintro e w2 ⟨x9, rfl, hn, hb⟩; have HB := Lib.hid (hb); replace H1 := Lib.hid (H1.out.step HB.out); replace H2 := Lib.hid (H2.out.step HB.out); replace H5 := Lib.hid (H5.out.step HB.out); replace H7 := Lib.hid (H7.out.step HB.out); replace HW := Lib.hid (bstep HW.out HB.out (Nat.le_refl _)); clear hb HB; clear H8; have H9 := Lib.hid hn; clear hn)
  have G14 : True := trivial
  go_wp2_with (go_at_call 15; clear G14; refine Calls.mono (same_b _ _ _ _ (by exact H7.out) (by have h := H9.out; rw [HP.out] at h; exact h)) ?_; rintro e w2 ⟨rfl, hb⟩; have HB := Lib.hid (hb); replace H1 := Lib.hid (H1.out.step HB.out); replace H2 := Lib.hid (H2.out.step HB.out); replace H5 := Lib.hid (H5.out.step HB.out); replace HW := Lib.hid (bstep HW.out HB.out (Nat.le_refl _)); clear hb HB; clear H7 H9)
  go_ret
  exact ⟨by first | rfl | exact ret_bool (by simp; omega), HW.out⟩
set_option maxHeartbeats 1600000 in
theorem natBack_11 (va vc : Value) (n : Nat) (A C : List Nat) (w : World) (hA : SL w va A) (hC : SL w vc C) (hn : n ≤ 255) (hm : mayB A C = true) (hl : C.length ≠ 0) (hz : A.length ≠ 0) : Calls Try.prog 8 #[va, vc, .int .u8 n] w (fun e w' => e = .returned (.bool true) ∧ Below w.heap.size w w') := by
  obtain ⟨co, m, cap', rfl, hC'⟩ := hC
  have hC : SL w (.slice co m cap') C := ⟨_, _, _, rfl, hC'⟩
  obtain ⟨ao, l, cap, rfl, hA'⟩ := hA
  have hA : SL w (.slice ao l cap) A := ⟨_, _, _, rfl, hA'⟩
  have HM := Lib.hid hm
  have HA := Lib.hid hA
  have HC := Lib.hid hC
  obtain ⟨l1, l2, t1, t2⟩ := mayB.parts hm
  have BA := Lib.hid (val_B hA l1)
  have BC := Lib.hid (val_B hC l2)
  have H1 := Lib.hid (show RN w (.slice ao l cap) (val A) from ⟨A, hA, Top.of t1, rfl⟩)
  have H2 := Lib.hid (show RN w (.slice co m cap') (val C) from ⟨C, hC, Top.of t2, rfl⟩)
  have HW := Lib.hid (Below.refl w.heap.size w)
  have hm0 : 0 < m := by have := hC'.len; omega
  have hc0 : val C ≠ 0 := fun e => hl (by rw [(val_eq_zero_iff (Top.of t2)).1 e]; rfl)
  have HC0 := Lib.hid hc0
  have hz0 : ((l : Int) == 0) = false := by have := hA'.len; simp; omega
  have HLE := Lib.hid (shl_len_add (val A) n hn (fun e => hz (by rw [(val_eq_zero_iff (Top.of t1)).1 e]; rfl)))
  have hnl := nlen_le BA.out
  rw [show 32 * 40 = 1280 from rfl] at hnl
  have BM : Hid (val A * val C < B 80) := by show _ < B (40 + 40); rw [B_add]; exact Nat.mul_lt_mul_of_lt_of_le BA.out (Nat.le_of_lt BC.out) (B_pos _)
  have HS := Lib.hid (shl_shr (val A) n hn)
  have HP := Lib.hid (shl_pow (val A) n hn)
  have BP := Lib.hid (pow2_lt n hn)
  clear hA hC hA' hC' hm hl hz t1 t2 l1 l2 hc0
  go_enter Try.func8, Try.ntmps8
  go_wp2_with (go_at_call 11; refine Calls.mono (may_yes _ _ A C _ (by exact HA.out) (by exact HC.out) (by exact HM.out)) ?_; rintro e w2 ⟨rfl, rfl⟩)
  clear HA HC
  have G1 : True := trivial
  go_wp2_with (go_at_call 16; clear G1; refine Calls.mono (add_rn _ _ (val A) (val C) _ (by exact H1.out) (by exact H2.out) 40 40 (by exact BA.out) (by exact BC.out) (by omega) (by omega)) ?_; rintro e w2 ⟨x3, rfl, hn, hb⟩; have HB := Lib.hid (hb); replace H1 := Lib.hid (H1.out.step HB.out); replace H2 := Lib.hid (H2.out.step HB.out); replace HW := Lib.hid (bstep HW.out HB.out (Nat.le_refl _)); clear hb HB; have H3 := Lib.hid hn; clear hn)
  have G2 : True := trivial
  go_wp2_with (go_at_call 13; clear G2; refine Calls.mono (sub_add _ _ (val A) (val C) _ (by exact H3.out) (by exact H2.out)) ?_; rintro e w2 ⟨x4, rfl, hn, hb⟩; have HB := Lib.hid (hb); replace H1 := Lib.hid (H1.out.step HB.out); replace H2 := Lib.hid (H2.out.step HB.out); replace HW := Lib.hid (bstep HW.out HB.out (Nat.le_refl _)); clear hb HB; clear H3; have H4 := Lib.hid hn; clear hn)
  have G3 : True := trivial
  go_wp2_with (go_at_call 22; clear G3; refine Calls.mono (mul_rn _ _ (val A) (val C) _ (by exact H1.out) (by exact H2.out) 40 40 (by exact BA.out) (by exact BC.out) (by omega) (by omega)) ?_; rintro e w2 ⟨x5, rfl, hn, hb⟩; have HB := Lib.hid (hb); replace H1 := Lib.hid (H1.out.step HB.out); replace H2 := Lib.hid (H2.out.step HB.out); replace H4 := Lib.hid (H4.out.step HB.out); replace HW := Lib.hid (bstep HW.out HB.out (Nat.le_refl _)); clear hb HB; have H5 := Lib.hid hn; clear hn)
  have G4 : True := trivial
  go_wp2_with (go_at_call 20; clear G4; refine Calls.mono (div_mul _ _ (val A) (val C) _ (by exact H5.out) (by exact H2.out) 80 (by exact BM.out) (by omega) (by exact HC0.out)) ?_; rintro e w2 ⟨x6, ro, rcap, rfl, hn', hb⟩; have HB := Lib.hid (hb); replace H1 := Lib.hid (H1.out.step HB.out); replace H2 := Lib.hid (H2.out.step HB.out); replace H4 := Lib.hid (H4.out.step HB.out); replace H5 := Lib.hid (H5.out.step HB.out); replace HW := Lib.hid (bstep HW.out HB.out (Nat.le_refl _)); clear hb HB; have H6 := Lib.hid hn'; clear hn')
  have G5 : True := trivial
  go_wp2_with (go_at_call 15; clear G5; refine Calls.mono (same_b _ _ _ _ (by exact H4.out) (by exact H1.out)) ?_; rintro e w2 ⟨rfl, hb⟩; have HB := Lib.hid (hb); replace H1 := Lib.hid (H1.out.step HB.out); replace H2 := Lib.hid (H2.out.step HB.out); replace H5 := Lib.hid (H5.out.step HB.out); replace H6 := Lib.hid (H6.out.step HB.out); replace HW := Lib.hid (bstep HW.out HB.out (Nat.le_refl _)); clear hb HB; clear H4)
  have G6 : True := trivial
  go_wp2_with (go_at_call 15; clear G6; refine Calls.mono (same_b _ _ _ _ (by exact H6.out) (by exact H1.out)) ?_; rintro e w2 ⟨rfl, hb⟩; have HB := Lib.hid (hb); replace H1 := Lib.hid (H1.out.step HB.out); replace H2 := Lib.hid (H2.out.step HB.out); replace H5 := Lib.hid (H5.out.step HB.out); replace HW := Lib.hid (bstep HW.out HB.out (Nat.le_refl _)); clear hb HB; clear H6)
  have G7 : True := trivial
  go_wp2_with (go_at_call 12; clear G7; refine Calls.mono (awake_any _) ?_; rintro e w2 ⟨rfl, hb⟩; have HB := Lib.hid (hb); replace H1 := Lib.hid (H1.out.step HB.out); replace H2 := Lib.hid (H2.out.step HB.out); replace H5 := Lib.hid (H5.out.step HB.out); replace HW := Lib.hid (bstep HW.out HB.out (Nat.le_refl _)); clear hb HB)
  have G8 : True := trivial
  go_wp2_with (go_at_call 24; clear G8; refine Calls.mono (shl_b _ _ n _ (by exact H1.out) 40 (by exact BA.out) (by omega)) ?_; rintro e w2 ⟨x7, rfl, hn, hb⟩; have HB := Lib.hid (hb); replace H1 := Lib.hid (H1.out.step HB.out); replace H2 := Lib.hid (H2.out.step HB.out); replace H5 := Lib.hid (H5.out.step HB.out); replace HW := Lib.hid (bstep HW.out HB.out (Nat.le_refl _)); clear hb HB; have H7 := Lib.hid hn; clear hn)
  have G9 : True := trivial
  go_wp2_with (go_at_call 26; clear G9; refine Calls.mono (shr_b _ _ n _ (by exact H7.out)) ?_; rintro e w2 ⟨x8, rfl, hn, hb⟩; have HB := Lib.hid (hb); replace H1 := Lib.hid (H1.out.step HB.out); replace H2 := Lib.hid (H2.out.step HB.out); replace H5 := Lib.hid (H5.out.step HB.out); replace HW := Lib.hid (bstep HW.out HB.out (Nat.le_refl _)); clear hb HB; clear H7; have H8 := Lib.hid hn; clear hn)
  have G10 : True := trivial
  go_wp2_with (go_at_call 15; clear G10; refine Calls.mono (same_b _ _ _ _ (by have h := H8.out; rw [HS.out] at h; exact h) (by exact H1.out)) ?_; rintro e w2 ⟨rfl, hb⟩; have HB := Lib.hid (hb); replace H1 := Lib.hid (H1.out.step HB.out); replace H2 := Lib.hid (H2.out.step HB.out); replace H5 := Lib.hid (H5.out.step HB.out); replace HW := Lib.hid (bstep HW.out HB.out (Nat.le_refl _)); clear hb HB; clear H8)
  have G11 : True := trivial
  go_wp2_with (go_at_call 24; clear G11; refine Calls.mono (shl_b _ _ n _ (by exact H1.out) 40 (by exact BA.out) (by omega)) ?_; rintro e w2 ⟨x7, rfl, hn, hb⟩; have HB := Lib.hid (hb); replace H1 := Lib.hid (H1.out.step HB.out); replace H2 := Lib.hid (H2.out.step HB.out); replace H5 := Lib.hid (H5.out.step HB.out); replace HW := Lib.hid (bstep HW.out HB.out (Nat.le_refl _)); clear hb HB; have H7 := Lib.hid hn; clear hn)
  have G12 : True := trivial
  go_wp2_with (go_at_call 31; clear G12; refine Calls.mono (pow_rn _ 2 n _ (by exact RN_new _ _ [2] _ 2 _ (by simp) rfl rfl rfl (by decide) rfl rfl) 1 (by decide) (by omega)) ?_; rintro e w2 ⟨x8, rfl, hn, hb⟩; have HB := Lib.hid (bfresh hb); replace H1 := Lib.hid (H1.out.step HB.out); replace H2 := Lib.hid (H2.out.step HB.out); replace H5 := Lib.hid (H5.out.step HB.out); replace H7 := Lib.hid (H7.out.step HB.out); replace HW := Lib.hid (bstep HW.out HB.out (Nat.le_refl _)); clear hb HB; have H8 := Lib.hid hn; clear hn)
  have G13 : True := trivial
  go_wp2_with (go_at_call 22; clear G13; refine Calls.mono (mul_rn _ _ (val A) (powN 2 n) _ (by exact H1.out) (by exact H8.out) 40 8 (by exact BA.out) (by exact BP.out) (by omega) (by omega)) ?_; rintro e w2 ⟨x9, rfl, hn, hb⟩; have HB := Lib.hid (hb); replace H1 := Lib.hid (H1.out.step HB.out); replace H2 := Lib.hid (H2.out.step HB.out); replace H5 := Lib.hid (H5.out.step HB.out); replace H7 := Lib.hid (H7.out.step HB.out); replace HW := Lib.hid (bstep HW.out HB.out (Nat.le_refl _)); clear hb HB; clear H8; have H9 := Lib.hid hn; clear hn)
  have G14 : True := trivial
  go_wp2_with (go_at_call 15; clear G14; refine Calls.mono (same_b _ _ _ _ (by exact H7.out) (by have h := H9.out; rw [HP.out] at h; exact h)) ?_; rintro e w2 ⟨rfl, hb⟩; have HB := Lib.hid (hb); replace H1 := Lib.hid (H1.out.step HB.out); replace H2 := Lib.hid (H2.out.step HB.out); replace H5 := Lib.hid (H5.out.step HB.out); replace HW := Lib.hid (bstep HW.out HB.out (Nat.le_refl _)); clear hb HB; clear H7 H9)
  have G15 : True := trivial
  go_wp2_with (go_at_call 24; clear G15; refine Calls.mono (shl_b _ _ n _ (by exact H1.out) 40 (by exact BA.out) (by omega)) ?_; rintro e w2 ⟨x7, rfl, hn, hb⟩; have HB := Lib.hid (hb); replace H1 := Lib.hid (H1.out.step HB.out); replace H2 := Lib.hid (H2.out.step HB.out); replace H5 := Lib.hid (H5.out.step HB.out); replace HW := Lib.hid (bstep HW.out HB.out (Nat.le_refl _)); clear hb HB; have H7 := Lib.hid hn; clear hn)
  have G91 : True := trivial
  go_wp2_with (first | (go_at_call 28; clear G91; refine Calls.mono (len_rn _ _ _ (by exact H7.out)) ?_; rw [HLE.out]; rintro e w2 ⟨rfl, rfl⟩) | (go_at_call 28; refine Calls.mono (len_rn _ _ _ (by exact H1.out)) ?_; rintro e w2 ⟨rfl, rfl⟩))
  go_ret
  exact ⟨by first | rfl | exact ret_bool (by simp; omega), HW.out⟩
theorem natBack_any (va vc : Value) (n : Nat) (A C : List Nat) (w : World) (hA : SL w va A) (hC : SL w vc C) (hn : n ≤ 255) : Calls Try.prog 8 #[va, vc, .int .u8 n] w (fun e w' => e = .returned (.bool true) ∧ Below w.heap.size w w') := by
  cases hm : mayB A C with
  | false => exact natBack_no va vc n A C w hA hC hn hm
  | true =>
    by_cases hl : C.length = 0
    · by_cases hz : A.length = 0
      · exact natBack_00 va vc n A C w hA hC hn hm hl hz
      · exact natBack_01 va vc n A C w hA hC hn hm hl hz
    · by_cases hz : A.length = 0
      · exact natBack_10 va vc n A C w hA hC hn hm hl hz
      · exact natBack_11 va vc n A C w hA hC hn hm hl hz
#print axioms natBack_any
end Go.Proofs.Ytdmolcopnehkbaa
