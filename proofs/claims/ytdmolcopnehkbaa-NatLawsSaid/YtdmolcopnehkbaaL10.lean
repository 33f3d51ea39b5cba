/-
  The walk of NatLaws.
-/
import Derived.Test.YtdmolcopnehkbaaL7
set_option autoImplicit false
namespace Go.Proofs.Ytdmolcopnehkbaa
open Go.RowKit

set_option maxHeartbeats 1600000 in
theorem natLaws_no (va vc vd : Value) (A C D : List Nat) (w : World) (hA : SL w va A) (hC : SL w vc C) (hD : SL w vd D) (hm : mayB A C = false) : Calls Try.prog 10 #[va, vc, vd] w (fun e w' => e = .returned (.bool true) ∧ Below w.heap.size w w') := by
  have HA := Lib.hid hA
  have HC := Lib.hid hC
  have HD := Lib.hid hD
  have HM := Lib.hid hm
  clear hA hC hD hm
  go_enter Try.func10, Try.ntmps10
  go_wp2_with (first | (go_at_call 11; refine Calls.mono (may_no _ _ A C _ (by exact HA.out) (by exact HC.out) (by exact HM.out)) ?_; rintro e w2 ⟨rfl, rfl⟩) | (go_at_call 12; refine Calls.mono (awake_any _) ?_; rintro e w2 ⟨rfl, hb⟩))
  go_ret
  exact ⟨rfl, hb⟩
set_option maxHeartbeats 1600000 in
theorem natLaws_no2 (va vc vd : Value) (A C D : List Nat) (w : World) (hA : SL w va A) (hC : SL w vc C) (hD : SL w vd D) (hm : mayB A C = true) (hm2 : mayB D [] = false) : Calls Try.prog 10 #[va, vc, vd] w (fun e w' => e = .returned (.bool true) ∧ Below w.heap.size w w') := by
  have HA := Lib.hid hA
  have HC := Lib.hid hC
  have HD := Lib.hid hD
  have HM := Lib.hid hm
  have HM2 := Lib.hid hm2
  clear hA hC hD hm hm2
  go_enter Try.func10, Try.ntmps10
  go_wp2_with (first | (go_at_call 11; refine Calls.mono (may_yes _ _ A C _ (by exact HA.out) (by exact HC.out) (by exact HM.out)) ?_; rintro e w2 ⟨rfl, rfl⟩) | (go_at_call 11; refine Calls.mono (may_no _ _ D [] _ (by exact HD.out) (by exact SL.nil _) (by exact HM2.out)) ?_; rintro e w2 ⟨rfl, rfl⟩) | (go_at_call 12; refine Calls.mono (awake_any _) ?_; rintro e w2 ⟨rfl, hb⟩))
  go_ret
  exact ⟨rfl, hb⟩

theorem cmpN_pos {a c : Nat} (h : c < a) : 0 < cmpN a c := by rw [cmpN_gt h]; decide
theorem cmpN_le {a c : Nat} (h : a ≤ c) : cmpN a c ≤ 0 := by unfold cmpN; split <;> (try split) <;> omega
theorem same_eq (va vc : Value) (a c : Nat) (b : Bool) (w : World) (hA : RN w va a) (hC : RN w vc c) (h : decide (a = c) = b) : Calls Try.prog 15 #[va, vc] w (fun e w' => e = .returned (.bool b) ∧ Below w.heap.size w w') :=
  h ▸ same_bb va vc a c w hA hC
set_option maxHeartbeats 1600000 in
theorem natLaws_gt (va vc vd : Value) (A C D : List Nat) (w : World) (hA : SL w va A) (hC : SL w vc C) (hD : SL w vd D) (hm : mayB A C = true) (hm2 : mayB D [] = true) (y z : Int) (hx : cmpN (val A) (val C) = 1) (hx' : cmpN (val C) (val A) = -1) (hy : cmpN (val C) (val D) = y) (hz : cmpN (val A) (val D) = z) (hq : decide (val A = val C) = false) : Calls Try.prog 10 #[va, vc, vd] w (fun e w' => e = .returned (.bool true) ∧ Below w.heap.size w w') := by
  have HA := Lib.hid hA
  have HC := Lib.hid hC
  have HD := Lib.hid hD
  have HM := Lib.hid hm
  have HM2 := Lib.hid hm2
  obtain ⟨l1, l2, t1, t2⟩ := mayB.parts hm
  obtain ⟨l3, _, t3, _⟩ := mayB.parts hm2
  have BA := Lib.hid (val_B hA l1)
  have BC := Lib.hid (val_B hC l2)
  have BD := Lib.hid (val_B hD l3)
  have H1 := Lib.hid (show RN w va (val A) from ⟨A, hA, Top.of t1, rfl⟩)
  have H2 := Lib.hid (show RN w vc (val C) from ⟨C, hC, Top.of t2, rfl⟩)
  have H3 := Lib.hid (show RN w vd (val D) from ⟨D, hD, Top.of t3, rfl⟩)
  have HW := Lib.hid (Below.refl w.heap.size w)
  have HX := Lib.hid hx
  have HX' := Lib.hid hx'
  have HY := Lib.hid hy
  have HZ := Lib.hid hz
  have HQ := Lib.hid hq
  have S1 : Hid (val A + val C < B 41) := Nat.lt_of_lt_of_le (Nat.add_lt_add BA.out BC.out) (by decide)
  have S2 : Hid (val C + val D < B 41) := Nat.lt_of_lt_of_le (Nat.add_lt_add BC.out BD.out) (by decide)
  have M1 : Hid (val A * val C < B 80) := by show _ < B (40 + 40); rw [B_add]; exact Nat.mul_lt_mul_of_lt_of_le BA.out (Nat.le_of_lt BC.out) (B_pos _)
  have M2 : Hid (val C * val D < B 80) := by show _ < B (40 + 40); rw [B_add]; exact Nat.mul_lt_mul_of_lt_of_le BC.out (Nat.le_of_lt BD.out) (B_pos _)
  have M3 : Hid (val A * val D < B 80) := by show _ < B (40 + 40); rw [B_add]; exact Nat.mul_lt_mul_of_lt_of_le BA.out (Nat.le_of_lt BD.out) (B_pos _)
  clear hA hC hD hm hm2 t1 t2 t3 l1 l2 l3 hx hx' hy hz hq
  go_enter Try.func10, Try.ntmps10
  go_wp2_with (first | (go_at_call 11; refine Calls.mono (may_yes _ _ A C _ (by exact HA.out) (by exact HC.out) (by exact HM.out)) ?_; rintro e w2 ⟨rfl, rfl⟩) | (go_at_call 11; refine Calls.mono (may_yes _ _ D [] _ (by exact HD.out) (by exact SL.nil _) (by exact HM2.out)) ?_; rintro e w2 ⟨rfl, rfl⟩))
  clear HA HC HD
  have G1 : True := trivial
  go_wp2_with (go_at_call 16; clear G1; refine Calls.mono (add_rn _ _ _ _ _ (by exact H1.out) (by exact H2.out) 40 40 (by exact BA.out) (by exact BC.out) (by omega) (by omega)) ?_; rintro e w2 ⟨x4, rfl, hn, hb⟩; have HB := Lib.hid (hb); replace H1 := Lib.hid (H1.out.step HB.out); replace H2 := Lib.hid (H2.out.step HB.out); replace H3 := Lib.hid (H3.out.step HB.out); replace HW := Lib.hid (bstep HW.out HB.out (Nat.le_refl _)); clear hb HB; have H4 := Lib.hid hn; clear hn)
  have G2 : True := trivial
  go_wp2_with (go_at_call 22; clear G2; refine Calls.mono (mul_rn _ _ _ _ _ (by exact H1.out) (by exact H2.out) 40 40 (by exact BA.out) (by exact BC.out) (by omega) (by omega)) ?_; rintro e w2 ⟨x5, rfl, hn, hb⟩; have HB := Lib.hid (hb); replace H1 := Lib.hid (H1.out.step HB.out); replace H2 := Lib.hid (H2.out.step HB.out); replace H3 := Lib.hid (H3.out.step HB.out); replace H4 := Lib.hid (H4.out.step HB.out); replace HW := Lib.hid (bstep HW.out HB.out (Nat.le_refl _)); clear hb HB; have H5 := Lib.hid hn; clear hn)
  have G3 : True := trivial
  go_wp2_with (go_at_call 18; clear G3; refine Calls.mono (cmp_z _ _ _ _ _ _ (by exact H1.out) (by exact H2.out) (by exact HX.out)) ?_; rintro e w2 ⟨rfl, hb⟩; have HB := Lib.hid (hb); replace H1 := Lib.hid (H1.out.step HB.out); replace H2 := Lib.hid (H2.out.step HB.out); replace H3 := Lib.hid (H3.out.step HB.out); replace H4 := Lib.hid (H4.out.step HB.out); replace H5 := Lib.hid (H5.out.step HB.out); replace HW := Lib.hid (bstep HW.out HB.out (Nat.le_refl _)); clear hb HB)
  have G4 : True := trivial
  go_wp2_with (go_at_call 18; clear G4; refine Calls.mono (cmp_z _ _ _ _ _ _ (by exact H2.out) (by exact H3.out) (by exact HY.out)) ?_; rintro e w2 ⟨rfl, hb⟩; have HB := Lib.hid (hb); replace H1 := Lib.hid (H1.out.step HB.out); replace H2 := Lib.hid (H2.out.step HB.out); replace H3 := Lib.hid (H3.out.step HB.out); replace H4 := Lib.hid (H4.out.step HB.out); replace H5 := Lib.hid (H5.out.step HB.out); replace HW := Lib.hid (bstep HW.out HB.out (Nat.le_refl _)); clear hb HB)
  have G5 : True := trivial
  go_wp2_with (go_at_call 18; clear G5; refine Calls.mono (cmp_z _ _ _ _ _ _ (by exact H1.out) (by exact H3.out) (by exact HZ.out)) ?_; rintro e w2 ⟨rfl, hb⟩; have HB := Lib.hid (hb); replace H1 := Lib.hid (H1.out.step HB.out); replace H2 := Lib.hid (H2.out.step HB.out); replace H3 := Lib.hid (H3.out.step HB.out); replace H4 := Lib.hid (H4.out.step HB.out); replace H5 := Lib.hid (H5.out.step HB.out); replace HW := Lib.hid (bstep HW.out HB.out (Nat.le_refl _)); clear hb HB)
  have G6 : True := trivial
  go_wp2_with (go_at_call 18; clear G6; refine Calls.mono (cmp_z _ _ _ _ _ _ (by exact H2.out) (by exact H1.out) (by exact HX'.out)) ?_; rintro e w2 ⟨rfl, hb⟩; have HB := Lib.hid (hb); replace H1 := Lib.hid (H1.out.step HB.out); replace H2 := Lib.hid (H2.out.step HB.out); replace H3 := Lib.hid (H3.out.step HB.out); replace H4 := Lib.hid (H4.out.step HB.out); replace H5 := Lib.hid (H5.out.step HB.out); replace HW := Lib.hid (bstep HW.out HB.out (Nat.le_refl _)); clear hb HB)
  have G7 : True := trivial
  go_wp2_with (go_at_call 15; clear G7; refine Calls.mono (same_eq _ _ _ _ false _ (by exact H1.out) (by exact H2.out) (by exact HQ.out)) ?_; rintro e w2 ⟨rfl, hb⟩; have HB := Lib.hid (hb); replace H1 := Lib.hid (H1.out.step HB.out); replace H2 := Lib.hid (H2.out.step HB.out); replace H3 := Lib.hid (H3.out.step HB.out); replace H4 := Lib.hid (H4.out.step HB.out); replace H5 := Lib.hid (H5.out.step HB.out); replace HW := Lib.hid (bstep HW.out HB.out (Nat.le_refl _)); clear hb HB)
  have G8 : True := trivial
  go_wp2_with (go_at_call 12; clear G8; refine Calls.mono (awake_any _) ?_; rintro e w2 ⟨rfl, hb⟩; have HB := Lib.hid (hb); replace H1 := Lib.hid (H1.out.step HB.out); replace H2 := Lib.hid (H2.out.step HB.out); replace H3 := Lib.hid (H3.out.step HB.out); replace H4 := Lib.hid (H4.out.step HB.out); replace H5 := Lib.hid (H5.out.step HB.out); replace HW := Lib.hid (bstep HW.out HB.out (Nat.le_refl _)); clear hb HB)
  have G9 : True := trivial
  go_wp2_with (go_at_call 16; clear G9; refine Calls.mono (add_rn _ _ _ _ _ (by exact H2.out) (by exact H1.out) 40 40 (by exact BC.out) (by exact BA.out) (by omega) (by omega)) ?_; rintro e w2 ⟨x6, rfl, hn, hb⟩; have HB := Lib.hid (hb); replace H1 := Lib.hid (H1.out.step HB.out); replace H2 := Lib.hid (H2.out.step HB.out); replace H3 := Lib.hid (H3.out.step HB.out); replace H4 := Lib.hid (H4.out.step HB.out); replace H5 := Lib.hid (H5.out.step HB.out); replace HW := Lib.hid (bstep HW.out HB.out (Nat.le_refl _)); clear hb HB; have H6 := Lib.hid hn; clear hn)
  have G10 : True := trivial
  go_wp2_with (go_at_call 15; clear G10; refine Calls.mono (same_b _ _ _ _ (by have h := H4.out; rw [Nat.add_comm] at h; exact h) (by exact H6.out)) ?_; rintro e w2 ⟨rfl, hb⟩; have HB := Lib.hid (hb); replace H1 := Lib.hid (H1.out.step HB.out); replace H2 := Lib.hid (H2.out.step HB.out); replace H3 := Lib.hid (H3.out.step HB.out); replace H4 := Lib.hid (H4.out.step HB.out); replace H5 := Lib.hid (H5.out.step HB.out); replace HW := Lib.hid (bstep HW.out HB.out (Nat.le_refl _)); clear hb HB; clear H6)
  have G11 : True := trivial
  go_wp2_with (go_at_call 22; clear G11; refine Calls.mono (mul_rn _ _ _ _ _ (by exact H2.out) (by exact H1.out) 40 40 (by exact BC.out) (by exact BA.out) (by omega) (by omega)) ?_; rintro e w2 ⟨x6, rfl, hn, hb⟩; have HB := Lib.hid (hb); replace H1 := Lib.hid (H1.out.step HB.out); replace H2 := Lib.hid (H2.out.step HB.out); replace H3 := Lib.hid (H3.out.step HB.out); replace H4 := Lib.hid (H4.out.step HB.out); replace H5 := Lib.hid (H5.out.step HB.out); replace HW := Lib.hid (bstep HW.out HB.out (Nat.le_refl _)); clear hb HB; have H6 := Lib.hid hn; clear hn)
  have G12 : True := trivial
  go_wp2_with (go_at_call 15; clear G12; refine Calls.mono (same_b _ _ _ _ (by have h := H5.out; rw [Nat.mul_comm] at h; exact h) (by exact H6.out)) ?_; rintro e w2 ⟨rfl, hb⟩; have HB := Lib.hid (hb); replace H1 := Lib.hid (H1.out.step HB.out); replace H2 := Lib.hid (H2.out.step HB.out); replace H3 := Lib.hid (H3.out.step HB.out); replace H4 := Lib.hid (H4.out.step HB.out); replace H5 := Lib.hid (H5.out.step HB.out); replace HW := Lib.hid (bstep HW.out HB.out (Nat.le_refl _)); clear hb HB; clear H6)
  have G13 : True := trivial
  go_wp2_with (go_at_call 16; clear G13; refine Calls.mono (add_rn _ _ _ _ _ (by exact H4.out) (by exact H3.out) 41 40 (by exact S1.out) (by exact BD.out) (by omega) (by omega)) ?_; rintro e w2 ⟨x6, rfl, hn, hb⟩; have HB := Lib.hid (hb); replace H1 := Lib.hid (H1.out.step HB.out); replace H2 := Lib.hid (H2.out.step HB.out); replace H3 := Lib.hid (H3.out.step HB.out); replace H4 := Lib.hid (H4.out.step HB.out); replace H5 := Lib.hid (H5.out.step HB.out); replace HW := Lib.hid (bstep HW.out HB.out (Nat.le_refl _)); clear hb HB; have H6 := Lib.hid hn; clear hn)
  have G14 : True := trivial
  go_wp2_with (go_at_call 16; clear G14; refine Calls.mono (add_rn _ _ _ _ _ (by exact H2.out) (by exact H3.out) 40 40 (by exact BC.out) (by exact BD.out) (by omega) (by omega)) ?_; rintro e w2 ⟨x7, rfl, hn, hb⟩; have HB := Lib.hid (hb); replace H1 := Lib.hid (H1.out.step HB.out); replace H2 := Lib.hid (H2.out.step HB.out); replace H3 := Lib.hid (H3.out.step HB.out); replace H4 := Lib.hid (H4.out.step HB.out); replace H5 := Lib.hid (H5.out.step HB.out); replace H6 := Lib.hid (H6.out.step HB.out); replace HW := Lib.hid (bstep HW.out HB.out (Nat.le_refl _)); clear hb HB; have H7 := Lib.hid hn; clear hn)
  have G15 : True := trivial
  go_wp2_with (go_at_call 16; clear G15; refine Calls.mono (add_rn _ _ _ _ _ (by exact H1.out) (by exact H7.out) 40 41 (by exact BA.out) (by exact S2.out) (by omega) (by omega)) ?_; rintro e w2 ⟨x8, rfl, hn, hb⟩; have HB := Lib.hid (hb); replace H1 := Lib.hid (H1.out.step HB.out); replace H2 := Lib.hid (H2.out.step HB.out); replace H3 := Lib.hid (H3.out.step HB.out); replace H4 := Lib.hid (H4.out.step HB.out); replace H5 := Lib.hid (H5.out.step HB.out); replace H6 := Lib.hid (H6.out.step HB.out); replace HW := Lib.hid (bstep HW.out HB.out (Nat.le_refl _)); clear hb HB; clear H7; have H8 := Lib.hid hn; clear hn)
  have G16 : True := trivial
  go_wp2_with (go_at_call 15; clear G16; refine Calls.mono (same_b _ _ _ _ (by have h := H6.out; rw [Nat.add_assoc] at h; exact h) (by exact H8.out)) ?_; rintro e w2 ⟨rfl, hb⟩; have HB := Lib.hid (hb); replace H1 := Lib.hid (H1.out.step HB.out); replace H2 := Lib.hid (H2.out.step HB.out); replace H3 := Lib.hid (H3.out.step HB.out); replace H4 := Lib.hid (H4.out.step HB.out); replace H5 := Lib.hid (H5.out.step HB.out); replace HW := Lib.hid (bstep HW.out HB.out (Nat.le_refl _)); clear hb HB; clear H6 H8)
  have G17 : True := trivial
  go_wp2_with (go_at_call 22; clear G17; refine Calls.mono (mul_rn _ _ _ _ _ (by exact H5.out) (by exact H3.out) 80 40 (by exact M1.out) (by exact BD.out) (by omega) (by omega)) ?_; rintro e w2 ⟨x6, rfl, hn, hb⟩; have HB := Lib.hid (hb); replace H1 := Lib.hid (H1.out.step HB.out); replace H2 := Lib.hid (H2.out.step HB.out); replace H3 := Lib.hid (H3.out.step HB.out); replace H4 := Lib.hid (H4.out.step HB.out); replace H5 := Lib.hid (H5.out.step HB.out); replace HW := Lib.hid (bstep HW.out HB.out (Nat.le_refl _)); clear hb HB; have H6 := Lib.hid hn; clear hn)
  have G18 : True := trivial
  go_wp2_with (go_at_call 22; clear G18; refine Calls.mono (mul_rn _ _ _ _ _ (by exact H2.out) (by exact H3.out) 40 40 (by exact BC.out) (by exact BD.out) (by omega) (by omega)) ?_; rintro e w2 ⟨x7, rfl, hn, hb⟩; have HB := Lib.hid (hb); replace H1 := Lib.hid (H1.out.step HB.out); replace H2 := Lib.hid (H2.out.step HB.out); replace H3 := Lib.hid (H3.out.step HB.out); replace H4 := Lib.hid (H4.out.step HB.out); replace H5 := Lib.hid (H5.out.step HB.out); replace H6 := Lib.hid (H6.out.step HB.out); replace HW := Lib.hid (bstep HW.out HB.out (Nat.le_refl _)); clear hb HB; have H7 := Lib.hid hn; clear hn)
  have G19 : True := trivial
  go_wp2_with (go_at_call 22; clear G19; refine Calls.mono (mul_rn _ _ _ _ _ (by exact H1.out) (by exact H7.out) 40 80 (by exact BA.out) (by exact M2.out) (by omega) (by omega)) ?_; rintro e w2 ⟨x8, rfl, hn, hb⟩; have HB := Lib.hid (hb); replace H1 := Lib.hid (H1.out.step HB.out); replace H2 := Lib.hid (H2.out.step HB.out); replace H3 := Lib.hid (H3.out.step HB.out); replace H4 := Lib.hid (H4.out.step HB.out); replace H5 := Lib.hid (H5.out.step HB.out); replace H6 := Lib.hid (H6.out.step HB.out); replace HW := Lib.hid (bstep HW.out HB.out (Nat.le_refl _)); clear hb HB; clear H7; have H8 := Lib.hid hn; clear hn)
  have G20 : True := trivial
  go_wp2_with (go_at_call 15; clear G20; refine Calls.mono (same_b _ _ _ _ (by have h := H6.out; rw [Nat.mul_assoc] at h; exact h) (by exact H8.out)) ?_; rintro e w2 ⟨rfl, hb⟩; have HB := Lib.hid (hb); replace H1 := Lib.hid (H1.out.step HB.out); replace H2 := Lib.hid (H2.out.step HB.out); replace H3 := Lib.hid (H3.out.step HB.out); replace H4 := Lib.hid (H4.out.step HB.out); replace H5 := Lib.hid (H5.out.step HB.out); replace HW := Lib.hid (bstep HW.out HB.out (Nat.le_refl _)); clear hb HB; clear H6 H8)
  have G21 : True := trivial
  go_wp2_with (go_at_call 22; clear G21; refine Calls.mono (mul_rn _ _ _ _ _ (by exact H4.out) (by exact H3.out) 41 40 (by exact S1.out) (by exact BD.out) (by omega) (by omega)) ?_; rintro e w2 ⟨x6, rfl, hn, hb⟩; have HB := Lib.hid (hb); replace H1 := Lib.hid (H1.out.step HB.out); replace H2 := Lib.hid (H2.out.step HB.out); replace H3 := Lib.hid (H3.out.step HB.out); replace H4 := Lib.hid (H4.out.step HB.out); replace H5 := Lib.hid (H5.out.step HB.out); replace HW := Lib.hid (bstep HW.out HB.out (Nat.le_refl _)); clear hb HB; have H6 := Lib.hid hn; clear hn)
  have G22 : True := trivial
  go_wp2_with (go_at_call 22; clear G22; refine Calls.mono (mul_rn _ _ _ _ _ (by exact H1.out) (by exact H3.out) 40 40 (by exact BA.out) (by exact BD.out) (by omega) (by omega)) ?_; rintro e w2 ⟨x7, rfl, hn, hb⟩; have HB := Lib.hid (hb); replace H1 := Lib.hid (H1.out.step HB.out); replace H2 := Lib.hid (H2.out.step HB.out); replace H3 := Lib.hid (H3.out.step HB.out); replace H4 := Lib.hid (H4.out.step HB.out); replace H5 := Lib.hid (H5.out.step HB.out); replace H6 := Lib.hid (H6.out.step HB.out); replace HW := Lib.hid (bstep HW.out HB.out (Nat.le_refl _)); clear hb HB; have H7 := Lib.hid hn; clear hn)
  have G23 : True := trivial
  go_wp2_with (go_at_call 22; clear G23; refine Calls.mono (mul_rn _ _ _ _ _ (by exact H2.out) (by exact H3.out) 40 40 (by exact BC.out) (by exact BD.out) (by omega) (by omega)) ?_; rintro e w2 ⟨x8, rfl, hn, hb⟩; have HB := Lib.hid (hb); replace H1 := Lib.hid (H1.out.step HB.out); replace H2 := Lib.hid (H2.out.step HB.out); replace H3 := Lib.hid (H3.out.step HB.out); replace H4 := Lib.hid (H4.out.step HB.out); replace H5 := Lib.hid (H5.out.step HB.out); replace H6 := Lib.hid (H6.out.step HB.out); replace H7 := Lib.hid (H7.out.step HB.out); replace HW := Lib.hid (bstep HW.out HB.out (Nat.le_refl _)); clear hb HB; have H8 := Lib.hid hn; clear hn)
  have G24 : True := trivial
  go_wp2_with (go_at_call 16; clear G24; refine Calls.mono (add_rn _ _ _ _ _ (by exact H7.out) (by exact H8.out) 80 80 (by exact M3.out) (by exact M2.out) (by omega) (by omega)) ?_; rintro e w2 ⟨x9, rfl, hn, hb⟩; have HB := Lib.hid (hb); replace H1 := Lib.hid (H1.out.step HB.out); replace H2 := Lib.hid (H2.out.step HB.out); replace H3 := Lib.hid (H3.out.step HB.out); replace H4 := Lib.hid (H4.out.step HB.out); replace H5 := Lib.hid (H5.out.step HB.out); replace H6 := Lib.hid (H6.out.step HB.out); replace HW := Lib.hid (bstep HW.out HB.out (Nat.le_refl _)); clear hb HB; clear H7 H8; have H9 := Lib.hid hn; clear hn)
  have G25 : True := trivial
  go_wp2_with (go_at_call 15; clear G25; refine Calls.mono (same_b _ _ _ _ (by have h := H6.out; rw [Nat.add_mul] at h; exact h) (by exact H9.out)) ?_; rintro e w2 ⟨rfl, hb⟩; have HB := Lib.hid (hb); replace H1 := Lib.hid (H1.out.step HB.out); replace H2 := Lib.hid (H2.out.step HB.out); replace H3 := Lib.hid (H3.out.step HB.out); replace H4 := Lib.hid (H4.out.step HB.out); replace H5 := Lib.hid (H5.out.step HB.out); replace HW := Lib.hid (bstep HW.out HB.out (Nat.le_refl _)); clear hb HB; clear H6 H9)
  have G26 : True := trivial
  go_wp2_with (go_at_call 36; clear G26; refine Calls.mono (right_b _ _ _ (by exact H4.out)) ?_; rintro e w2 ⟨rfl, rfl⟩)
  have G27 : True := trivial
  go_wp2_with (go_at_call 36; clear G27; refine Calls.mono (right_b _ _ _ (by exact H5.out)) ?_; rintro e w2 ⟨rfl, rfl⟩)
  go_ret
  exact ⟨rfl, HW.out⟩
set_option maxHeartbeats 1600000 in
theorem natLaws_lt1 (va vc vd : Value) (A C D : List Nat) (w : World) (hA : SL w va A) (hC : SL w vc C) (hD : SL w vd D) (hm : mayB A C = true) (hm2 : mayB D [] = true) (y z : Int) (hx : cmpN (val A) (val C) = -1) (hx' : cmpN (val C) (val A) = 1) (hy : cmpN (val C) (val D) = y) (hz : cmpN (val A) (val D) = z) (hq : decide (val A = val C) = false) (hyz : 0 < y) : Calls Try.prog 10 #[va, vc, vd] w (fun e w' => e = .returned (.bool true) ∧ Below w.heap.size w w') := by
  have HA := Lib.hid hA
  have HC := Lib.hid hC
  have HD := Lib.hid hD
  have HM := Lib.hid hm
  have HM2 := Lib.hid hm2
  obtain ⟨l1, l2, t1, t2⟩ := mayB.parts hm
  obtain ⟨l3, _, t3, _⟩ := mayB.parts hm2
  have BA := Lib.hid (val_B hA l1)
  have BC := Lib.hid (val_B hC l2)
  have BD := Lib.hid (val_B hD l3)
  have H1 := Lib.hid (show RN w va (val A) from ⟨A, hA, Top.of t1, rfl⟩)
  have H2 := Lib.hid (show RN w vc (val C) from ⟨C, hC, Top.of t2, rfl⟩)
  have H3 := Lib.hid (show RN w vd (val D) from ⟨D, hD, Top.of t3, rfl⟩)
  have HW := Lib.hid (Below.refl w.heap.size w)
  have HX := Lib.hid hx
  have HX' := Lib.hid hx'
  have HY := Lib.hid hy
  have HZ := Lib.hid hz
  have HQ := Lib.hid hq
  have S1 : Hid (val A + val C < B 41) := Nat.lt_of_lt_of_le (Nat.add_lt_add BA.out BC.out) (by decide)
  have S2 : Hid (val C + val D < B 41) := Nat.lt_of_lt_of_le (Nat.add_lt_add BC.out BD.out) (by decide)
  have M1 : Hid (val A * val C < B 80) := by show _ < B (40 + 40); rw [B_add]; exact Nat.mul_lt_mul_of_lt_of_le BA.out (Nat.le_of_lt BC.out) (B_pos _)
  have M2 : Hid (val C * val D < B 80) := by show _ < B (40 + 40); rw [B_add]; exact Nat.mul_lt_mul_of_lt_of_le BC.out (Nat.le_of_lt BD.out) (B_pos _)
  have M3 : Hid (val A * val D < B 80) := by show _ < B (40 + 40); rw [B_add]; exact Nat.mul_lt_mul_of_lt_of_le BA.out (Nat.le_of_lt BD.out) (B_pos _)
  clear hA hC hD hm hm2 t1 t2 t3 l1 l2 l3 hx hx' hy hz hq
  go_enter Try.func10, Try.ntmps10
  go_wp2_with (first | (go_at_call 11; refine Calls.mono (may_yes _ _ A C _ (by exact HA.out) (by exact HC.out) (by exact HM.out)) ?_; rintro e w2 ⟨rfl, rfl⟩) | (go_at_call 11; refine Calls.mono (may_yes _ _ D [] _ (by exact HD.out) (by exact SL.nil _) (by exact HM2.out)) ?_; rintro e w2 ⟨rfl, rfl⟩))
  clear HA HC HD
  have G1 : True := trivial
  go_wp2_with (go_at_call 16; clear G1; refine Calls.mono (add_rn _ _ _ _ _ (by exact H1.out) (by exact H2.out) 40 40 (by exact BA.out) (by exact BC.out) (by omega) (by omega)) ?_; rintro e w2 ⟨x4, rfl, hn, hb⟩; have HB := Lib.hid (hb); replace H1 := Lib.hid (H1.out.step HB.out); replace H2 := Lib.hid (H2.out.step HB.out); replace H3 := Lib.hid (H3.out.step HB.out); replace HW := Lib.hid (bstep HW.out HB.out (Nat.le_refl _)); clear hb HB; have H4 := Lib.hid hn; clear hn)
  have G2 : True := trivial
  go_wp2_with (go_at_call 22; clear G2; refine Calls.mono (mul_rn _ _ _ _ _ (by exact H1.out) (by exact H2.out) 40 40 (by exact BA.out) (by exact BC.out) (by omega) (by omega)) ?_; rintro e w2 ⟨x5, rfl, hn, hb⟩; have HB := Lib.hid (hb); replace H1 := Lib.hid (H1.out.step HB.out); replace H2 := Lib.hid (H2.out.step HB.out); replace H3 := Lib.hid (H3.out.step HB.out); replace H4 := Lib.hid (H4.out.step HB.out); replace HW := Lib.hid (bstep HW.out HB.out (Nat.le_refl _)); clear hb HB; have H5 := Lib.hid hn; clear hn)
  have G3 : True := trivial
  go_wp2_with (go_at_call 18; clear G3; refine Calls.mono (cmp_z _ _ _ _ _ _ (by exact H1.out) (by exact H2.out) (by exact HX.out)) ?_; rintro e w2 ⟨rfl, hb⟩; have HB := Lib.hid (hb); replace H1 := Lib.hid (H1.out.step HB.out); replace H2 := Lib.hid (H2.out.step HB.out); replace H3 := Lib.hid (H3.out.step HB.out); replace H4 := Lib.hid (H4.out.step HB.out); replace H5 := Lib.hid (H5.out.step HB.out); replace HW := Lib.hid (bstep HW.out HB.out (Nat.le_refl _)); clear hb HB)
  have G4 : True := trivial
  go_wp2_with (go_at_call 18; clear G4; refine Calls.mono (cmp_z _ _ _ _ _ _ (by exact H2.out) (by exact H3.out) (by exact HY.out)) ?_; rintro e w2 ⟨rfl, hb⟩; have HB := Lib.hid (hb); replace H1 := Lib.hid (H1.out.step HB.out); replace H2 := Lib.hid (H2.out.step HB.out); replace H3 := Lib.hid (H3.out.step HB.out); replace H4 := Lib.hid (H4.out.step HB.out); replace H5 := Lib.hid (H5.out.step HB.out); replace HW := Lib.hid (bstep HW.out HB.out (Nat.le_refl _)); clear hb HB)
  have G5 : True := trivial
  go_wp2_with (go_at_call 18; clear G5; refine Calls.mono (cmp_z _ _ _ _ _ _ (by exact H1.out) (by exact H3.out) (by exact HZ.out)) ?_; rintro e w2 ⟨rfl, hb⟩; have HB := Lib.hid (hb); replace H1 := Lib.hid (H1.out.step HB.out); replace H2 := Lib.hid (H2.out.step HB.out); replace H3 := Lib.hid (H3.out.step HB.out); replace H4 := Lib.hid (H4.out.step HB.out); replace H5 := Lib.hid (H5.out.step HB.out); replace HW := Lib.hid (bstep HW.out HB.out (Nat.le_refl _)); clear hb HB)
  have G6 : True := trivial
  go_wp2_with (go_at_call 18; clear G6; refine Calls.mono (cmp_z _ _ _ _ _ _ (by exact H2.out) (by exact H1.out) (by exact HX'.out)) ?_; rintro e w2 ⟨rfl, hb⟩; have HB := Lib.hid (hb); replace H1 := Lib.hid (H1.out.step HB.out); replace H2 := Lib.hid (H2.out.step HB.out); replace H3 := Lib.hid (H3.out.step HB.out); replace H4 := Lib.hid (H4.out.step HB.out); replace H5 := Lib.hid (H5.out.step HB.out); replace HW := Lib.hid (bstep HW.out HB.out (Nat.le_refl _)); clear hb HB)
  have G7 : True := trivial
  go_wp2_with (go_at_call 15; clear G7; refine Calls.mono (same_eq _ _ _ _ false _ (by exact H1.out) (by exact H2.out) (by exact HQ.out)) ?_; rintro e w2 ⟨rfl, hb⟩; have HB := Lib.hid (hb); replace H1 := Lib.hid (H1.out.step HB.out); replace H2 := Lib.hid (H2.out.step HB.out); replace H3 := Lib.hid (H3.out.step HB.out); replace H4 := Lib.hid (H4.out.step HB.out); replace H5 := Lib.hid (H5.out.step HB.out); replace HW := Lib.hid (bstep HW.out HB.out (Nat.le_refl _)); clear hb HB)
  have G8 : True := trivial
  go_wp2_with (go_at_call 12; clear G8; refine Calls.mono (awake_any _) ?_; rintro e w2 ⟨rfl, hb⟩; have HB := Lib.hid (hb); replace H1 := Lib.hid (H1.out.step HB.out); replace H2 := Lib.hid (H2.out.step HB.out); replace H3 := Lib.hid (H3.out.step HB.out); replace H4 := Lib.hid (H4.out.step HB.out); replace H5 := Lib.hid (H5.out.step HB.out); replace HW := Lib.hid (bstep HW.out HB.out (Nat.le_refl _)); clear hb HB)
  have G9 : True := trivial
  go_wp2_with (go_at_call 16; clear G9; refine Calls.mono (add_rn _ _ _ _ _ (by exact H2.out) (by exact H1.out) 40 40 (by exact BC.out) (by exact BA.out) (by omega) (by omega)) ?_; rintro e w2 ⟨x6, rfl, hn, hb⟩; have HB := Lib.hid (hb); replace H1 := Lib.hid (H1.out.step HB.out); replace H2 := Lib.hid (H2.out.step HB.out); replace H3 := Lib.hid (H3.out.step HB.out); replace H4 := Lib.hid (H4.out.step HB.out); replace H5 := Lib.hid (H5.out.step HB.out); replace HW := Lib.hid (bstep HW.out HB.out (Nat.le_refl _)); clear hb HB; have H6 := Lib.hid hn; clear hn)
  have G10 : True := trivial
  go_wp2_with (go_at_call 15; clear G10; refine Calls.mono (same_b _ _ _ _ (by have h := H4.out; rw [Nat.add_comm] at h; exact h) (by exact H6.out)) ?_; rintro e w2 ⟨rfl, hb⟩; have HB := Lib.hid (hb); replace H1 := Lib.hid (H1.out.step HB.out); replace H2 := Lib.hid (H2.out.step HB.out); replace H3 := Lib.hid (H3.out.step HB.out); replace H4 := Lib.hid (H4.out.step HB.out); replace H5 := Lib.hid (H5.out.step HB.out); replace HW := Lib.hid (bstep HW.out HB.out (Nat.le_refl _)); clear hb HB; clear H6)
  have G11 : True := trivial
  go_wp2_with (go_at_call 22; clear G11; refine Calls.mono (mul_rn _ _ _ _ _ (by exact H2.out) (by exact H1.out) 40 40 (by exact BC.out) (by exact BA.out) (by omega) (by omega)) ?_; rintro e w2 ⟨x6, rfl, hn, hb⟩; have HB := Lib.hid (hb); replace H1 := Lib.hid (H1.out.step HB.out); replace H2 := Lib.hid (H2.out.step HB.out); replace H3 := Lib.hid (H3.out.step HB.out); replace H4 := Lib.hid (H4.out.step HB.out); replace H5 := Lib.hid (H5.out.step HB.out); replace HW := Lib.hid (bstep HW.out HB.out (Nat.le_refl _)); clear hb HB; have H6 := Lib.hid hn; clear hn)
  have G12 : True := trivial
  go_wp2_with (go_at_call 15; clear G12; refine Calls.mono (same_b _ _ _ _ (by have h := H5.out; rw [Nat.mul_comm] at h; exact h) (by exact H6.out)) ?_; rintro e w2 ⟨rfl, hb⟩; have HB := Lib.hid (hb); replace H1 := Lib.hid (H1.out.step HB.out); replace H2 := Lib.hid (H2.out.step HB.out); replace H3 := Lib.hid (H3.out.step HB.out); replace H4 := Lib.hid (H4.out.step HB.out); replace H5 := Lib.hid (H5.out.step HB.out); replace HW := Lib.hid (bstep HW.out HB.out (Nat.le_refl _)); clear hb HB; clear H6)
  have G13 : True := trivial
  go_wp2_with (go_at_call 16; clear G13; refine Calls.mono (add_rn _ _ _ _ _ (by exact H4.out) (by exact H3.out) 41 40 (by exact S1.out) (by exact BD.out) (by omega) (by omega)) ?_; rintro e w2 ⟨x6, rfl, hn, hb⟩; have HB := Lib.hid (hb); replace H1 := Lib.hid (H1.out.step HB.out); replace H2 := Lib.hid (H2.out.step HB.out); replace H3 := Lib.hid (H3.out.step HB.out); replace H4 := Lib.hid (H4.out.step HB.out); replace H5 := Lib.hid (H5.out.step HB.out); replace HW := Lib.hid (bstep HW.out HB.out (Nat.le_refl _)); clear hb HB; have H6 := Lib.hid hn; clear hn)
  have G14 : True := trivial
  go_wp2_with (go_at_call 16; clear G14; refine Calls.mono (add_rn _ _ _ _ _ (by exact H2.out) (by exact H3.out) 40 40 (by exact BC.out) (by exact BD.out) (by omega) (by omega)) ?_; rintro e w2 ⟨x7, rfl, hn, hb⟩; have HB := Lib.hid (hb); replace H1 := Lib.hid (H1.out.step HB.out); replace H2 := Lib.hid (H2.out.step HB.out); replace H3 := Lib.hid (H3.out.step HB.out); replace H4 := Lib.hid (H4.out.step HB.out); replace H5 := Lib.hid (H5.out.step HB.out); replace H6 := Lib.hid (H6.out.step HB.out); replace HW := Lib.hid (bstep HW.out HB.out (Nat.le_refl _)); clear hb HB; have H7 := Lib.hid hn; clear hn)
  have G15 : True := trivial
  go_wp2_with (go_at_call 16; clear G15; refine Calls.mono (add_rn _ _ _ _ _ (by exact H1.out) (by exact H7.out) 40 41 (by exact BA.out) (by exact S2.out) (by omega) (by omega)) ?_; rintro e w2 ⟨x8, rfl, hn, hb⟩; have HB := Lib.hid (hb); replace H1 := Lib.hid (H1.out.step HB.out); replace H2 := Lib.hid (H2.out.step HB.out); replace H3 := Lib.hid (H3.out.step HB.out); replace H4 := Lib.hid (H4.out.step HB.out); replace H5 := Lib.hid (H5.out.step HB.out); replace H6 := Lib.hid (H6.out.step HB.out); replace HW := Lib.hid (bstep HW.out HB.out (Nat.le_refl _)); clear hb HB; clear H7; have H8 := Lib.hid hn; clear hn)
  have G16 : True := trivial
  go_wp2_with (go_at_call 15; clear G16; refine Calls.mono (same_b _ _ _ _ (by have h := H6.out; rw [Nat.add_assoc] at h; exact h) (by exact H8.out)) ?_; rintro e w2 ⟨rfl, hb⟩; have HB := Lib.hid (hb); replace H1 := Lib.hid (H1.out.step HB.out); replace H2 := Lib.hid (H2.out.step HB.out); replace H3 := Lib.hid (H3.out.step HB.out); replace H4 := Lib.hid (H4.out.step HB.out); replace H5 := Lib.hid (H5.out.step HB.out); replace HW := Lib.hid (bstep HW.out HB.out (Nat.le_refl _)); clear hb HB; clear H6 H8)
  have G17 : True := trivial
  go_wp2_with (go_at_call 22; clear G17; refine Calls.mono (mul_rn _ _ _ _ _ (by exact H5.out) (by exact H3.out) 80 40 (by exact M1.out) (by exact BD.out) (by omega) (by omega)) ?_; rintro e w2 ⟨x6, rfl, hn, hb⟩; have HB := Lib.hid (hb); replace H1 := Lib.hid (H1.out.step HB.out); replace H2 := Lib.hid (H2.out.step HB.out); replace H3 := Lib.hid (H3.out.step HB.out); replace H4 := Lib.hid (H4.out.step HB.out); replace H5 := Lib.hid (H5.out.step HB.out); replace HW := Lib.hid (bstep HW.out HB.out (Nat.le_refl _)); clear hb HB; have H6 := Lib.hid hn; clear hn)
  have G18 : True := trivial
  go_wp2_with (go_at_call 22; clear G18; refine Calls.mono (mul_rn _ _ _ _ _ (by exact H2.out) (by exact H3.out) 40 40 (by exact BC.out) (by exact BD.out) (by omega) (by omega)) ?_; rintro e w2 ⟨x7, rfl, hn, hb⟩; have HB := Lib.hid (hb); replace H1 := Lib.hid (H1.out.step HB.out); replace H2 := Lib.hid (H2.out.step HB.out); replace H3 := Lib.hid (H3.out.step HB.out); replace H4 := Lib.hid (H4.out.step HB.out); replace H5 := Lib.hid (H5.out.step HB.out); replace H6 := Lib.hid (H6.out.step HB.out); replace HW := Lib.hid (bstep HW.out HB.out (Nat.le_refl _)); clear hb HB; have H7 := Lib.hid hn; clear hn)
  have G19 : True := trivial
  go_wp2_with (go_at_call 22; clear G19; refine Calls.mono (mul_rn _ _ _ _ _ (by exact H1.out) (by exact H7.out) 40 80 (by exact BA.out) (by exact M2.out) (by omega) (by omega)) ?_; rintro e w2 ⟨x8, rfl, hn, hb⟩; have HB := Lib.hid (hb); replace H1 := Lib.hid (H1.out.step HB.out); replace H2 := Lib.hid (H2.out.step HB.out); replace H3 := Lib.hid (H3.out.step HB.out); replace H4 := Lib.hid (H4.out.step HB.out); replace H5 := Lib.hid (H5.out.step HB.out); replace H6 := Lib.hid (H6.out.step HB.out); replace HW := Lib.hid (bstep HW.out HB.out (Nat.le_refl _)); clear hb HB; clear H7; have H8 := Lib.hid hn; clear hn)
  have G20 : True := trivial
  go_wp2_with (go_at_call 15; clear G20; refine Calls.mono (same_b _ _ _ _ (by have h := H6.out; rw [Nat.mul_assoc] at h; exact h) (by exact H8.out)) ?_; rintro e w2 ⟨rfl, hb⟩; have HB := Lib.hid (hb); replace H1 := Lib.hid (H1.out.step HB.out); replace H2 := Lib.hid (H2.out.step HB.out); replace H3 := Lib.hid (H3.out.step HB.out); replace H4 := Lib.hid (H4.out.step HB.out); replace H5 := Lib.hid (H5.out.step HB.out); replace HW := Lib.hid (bstep HW.out HB.out (Nat.le_refl _)); clear hb HB; clear H6 H8)
  have G21 : True := trivial
  go_wp2_with (go_at_call 22; clear G21; refine Calls.mono (mul_rn _ _ _ _ _ (by exact H4.out) (by exact H3.out) 41 40 (by exact S1.out) (by exact BD.out) (by omega) (by omega)) ?_; rintro e w2 ⟨x6, rfl, hn, hb⟩; have HB := Lib.hid (hb); replace H1 := Lib.hid (H1.out.step HB.out); replace H2 := Lib.hid (H2.out.step HB.out); replace H3 := Lib.hid (H3.out.step HB.out); replace H4 := Lib.hid (H4.out.step HB.out); replace H5 := Lib.hid (H5.out.step HB.out); replace HW := Lib.hid (bstep HW.out HB.out (Nat.le_refl _)); clear hb HB; have H6 := Lib.hid hn; clear hn)
  have G22 : True := trivial
  go_wp2_with (go_at_call 22; clear G22; refine Calls.mono (mul_rn _ _ _ _ _ (by exact H1.out) (by exact H3.out) 40 40 (by exact BA.out) (by exact BD.out) (by omega) (by omega)) ?_; rintro e w2 ⟨x7, rfl, hn, hb⟩; have HB := Lib.hid (hb); replace H1 := Lib.hid (H1.out.step HB.out); replace H2 := Lib.hid (H2.out.step HB.out); replace H3 := Lib.hid (H3.out.step HB.out); replace H4 := Lib.hid (H4.out.step HB.out); replace H5 := Lib.hid (H5.out.step HB.out); replace H6 := Lib.hid (H6.out.step HB.out); replace HW := Lib.hid (bstep HW.out HB.out (Nat.le_refl _)); clear hb HB; have H7 := Lib.hid hn; clear hn)
  have G23 : True := trivial
  go_wp2_with (go_at_call 22; clear G23; refine Calls.mono (mul_rn _ _ _ _ _ (by exact H2.out) (by exact H3.out) 40 40 (by exact BC.out) (by exact BD.out) (by omega) (by omega)) ?_; rintro e w2 ⟨x8, rfl, hn, hb⟩; have HB := Lib.hid (hb); replace H1 := Lib.hid (H1.out.step HB.out); replace H2 := Lib.hid (H2.out.step HB.out); replace H3 := Lib.hid (H3.out.step HB.out); replace H4 := Lib.hid (H4.out.step HB.out); replace H5 := Lib.hid (H5.out.step HB.out); replace H6 := Lib.hid (H6.out.step HB.out); replace H7 := Lib.hid (H7.out.step HB.out); replace HW := Lib.hid (bstep HW.out HB.out (Nat.le_refl _)); clear hb HB; have H8 := Lib.hid hn; clear hn)
  have G24 : True := trivial
  go_wp2_with (go_at_call 16; clear G24; refine Calls.mono (add_rn _ _ _ _ _ (by exact H7.out) (by exact H8.out) 80 80 (by exact M3.out) (by exact M2.out) (by omega) (by omega)) ?_; rintro e w2 ⟨x9, rfl, hn, hb⟩; have HB := Lib.hid (hb); replace H1 := Lib.hid (H1.out.step HB.out); replace H2 := Lib.hid (H2.out.step HB.out); replace H3 := Lib.hid (H3.out.step HB.out); replace H4 := Lib.hid (H4.out.step HB.out); replace H5 := Lib.hid (H5.out.step HB.out); replace H6 := Lib.hid (H6.out.step HB.out); replace HW := Lib.hid (bstep HW.out HB.out (Nat.le_refl _)); clear hb HB; clear H7 H8; have H9 := Lib.hid hn; clear hn)
  have G25 : True := trivial
  go_wp2_with (go_at_call 15; clear G25; refine Calls.mono (same_b _ _ _ _ (by have h := H6.out; rw [Nat.add_mul] at h; exact h) (by exact H9.out)) ?_; rintro e w2 ⟨rfl, hb⟩; have HB := Lib.hid (hb); replace H1 := Lib.hid (H1.out.step HB.out); replace H2 := Lib.hid (H2.out.step HB.out); replace H3 := Lib.hid (H3.out.step HB.out); replace H4 := Lib.hid (H4.out.step HB.out); replace H5 := Lib.hid (H5.out.step HB.out); replace HW := Lib.hid (bstep HW.out HB.out (Nat.le_refl _)); clear hb HB; clear H6 H9)
  have G26 : True := trivial
  go_wp2_with (go_at_call 36; clear G26; refine Calls.mono (right_b _ _ _ (by exact H4.out)) ?_; rintro e w2 ⟨rfl, rfl⟩)
  have G27 : True := trivial
  go_wp2_with (go_at_call 36; clear G27; refine Calls.mono (right_b _ _ _ (by exact H5.out)) ?_; rintro e w2 ⟨rfl, rfl⟩)
  go_ret
  exact ⟨rfl, HW.out⟩
set_option maxHeartbeats 1600000 in
theorem natLaws_lt2 (va vc vd : Value) (A C D : List Nat) (w : World) (hA : SL w va A) (hC : SL w vc C) (hD : SL w vd D) (hm : mayB A C = true) (hm2 : mayB D [] = true) (y z : Int) (hx : cmpN (val A) (val C) = -1) (hx' : cmpN (val C) (val A) = 1) (hy : cmpN (val C) (val D) = y) (hz : cmpN (val A) (val D) = z) (hq : decide (val A = val C) = false) (hyz : y ≤ 0) (hyz2 : z ≤ 0) : Calls Try.prog 10 #[va, vc, vd] w (fun e w' => e = .returned (.bool true) ∧ Below w.heap.size w w') := by
  have HA := Lib.hid hA
  have HC := Lib.hid hC
  have HD := Lib.hid hD
  have HM := Lib.hid hm
  have HM2 := Lib.hid hm2
  obtain ⟨l1, l2, t1, t2⟩ := mayB.parts hm
  obtain ⟨l3, _, t3, _⟩ := mayB.parts hm2
  have BA := Lib.hid (val_B hA l1)
  have BC := Lib.hid (val_B hC l2)
  have BD := Lib.hid (val_B hD l3)
  have H1 := Lib.hid (show RN w va (val A) from ⟨A, hA, Top.of t1, rfl⟩)
  have H2 := Lib.hid (show RN w vc (val C) from ⟨C, hC, Top.of t2, rfl⟩)
  have H3 := Lib.hid (show RN w vd (val D) from ⟨D, hD, Top.of t3, rfl⟩)
  have HW := Lib.hid (Below.refl w.heap.size w)
  have HX := Lib.hid hx
  have HX' := Lib.hid hx'
  have HY := Lib.hid hy
  have HZ := Lib.hid hz
  have HQ := Lib.hid hq
  have S1 : Hid (val A + val C < B 41) := Nat.lt_of_lt_of_le (Nat.add_lt_add BA.out BC.out) (by decide)
  have S2 : Hid (val C + val D < B 41) := Nat.lt_of_lt_of_le (Nat.add_lt_add BC.out BD.out) (by decide)
  have M1 : Hid (val A * val C < B 80) := by show _ < B (40 + 40); rw [B_add]; exact Nat.mul_lt_mul_of_lt_of_le BA.out (Nat.le_of_lt BC.out) (B_pos _)
  have M2 : Hid (val C * val D < B 80) := by show _ < B (40 + 40); rw [B_add]; exact Nat.mul_lt_mul_of_lt_of_le BC.out (Nat.le_of_lt BD.out) (B_pos _)
  have M3 : Hid (val A * val D < B 80) := by show _ < B (40 + 40); rw [B_add]; exact Nat.mul_lt_mul_of_lt_of_le BA.out (Nat.le_of_lt BD.out) (B_pos _)
  clear hA hC hD hm hm2 t1 t2 t3 l1 l2 l3 hx hx' hy hz hq
  go_enter Try.func10, Try.ntmps10
  go_wp2_with (first | (go_at_call 11; refine Calls.mono (may_yes _ _ A C _ (by exact HA.out) (by exact HC.out) (by exact HM.out)) ?_; rintro e w2 ⟨rfl, rfl⟩) | (go_at_call 11; refine Calls.mono (may_yes _ _ D [] _ (by exact HD.out) (by exact SL.nil _) (by exact HM2.out)) ?_; rintro e w2 ⟨rfl, rfl⟩))
  clear HA HC HD
  have G1 : True := trivial
  go_wp2_with (go_at_call 16; clear G1; refine Calls.mono (add_rn _ _ _ _ _ (by exact H1.out) (by exact H2.out) 40 40 (by exact BA.out) (by exact BC.out) (by omega) (by omega)) ?_; rintro e w2 ⟨x4, rfl, hn, hb⟩; have HB := Lib.hid (hb); replace H1 := Lib.hid (H1.out.step HB.out); replace H2 := Lib.hid (H2.out.step HB.out); replace H3 := Lib.hid (H3.out.step HB.out); replace HW := Lib.hid (bstep HW.out HB.out (Nat.le_refl _)); clear hb HB; have H4 := Lib.hid hn; clear hn)
  have G2 : True := trivial
  go_wp2_with (go_at_call 22; clear G2; refine Calls.mono (mul_rn _ _ _ _ _ (by exact H1.out) (by exact H2.out) 40 40 (by exact BA.out) (by exact BC.out) (by omega) (by omega)) ?_; rintro e w2 ⟨x5, rfl, hn, hb⟩; have HB := Lib.hid (hb); replace H1 := Lib.hid (H1.out.step HB.out); replace H2 := Lib.hid (H2.out.step HB.out); replace H3 := Lib.hid (H3.out.step HB.out); replace H4 := Lib.hid (H4.out.step HB.out); replace HW := Lib.hid (bstep HW.out HB.out (Nat.le_refl _)); clear hb HB; have H5 := Lib.hid hn; clear hn)
  have G3 : True := trivial
  go_wp2_with (go_at_call 18; clear G3; refine Calls.mono (cmp_z _ _ _ _ _ _ (by exact H1.out) (by exact H2.out) (by exact HX.out)) ?_; rintro e w2 ⟨rfl, hb⟩; have HB := Lib.hid (hb); replace H1 := Lib.hid (H1.out.step HB.out); replace H2 := Lib.hid (H2.out.step HB.out); replace H3 := Lib.hid (H3.out.step HB.out); replace H4 := Lib.hid (H4.out.step HB.out); replace H5 := Lib.hid (H5.out.step HB.out); replace HW := Lib.hid (bstep HW.out HB.out (Nat.le_refl _)); clear hb HB)
  have G4 : True := trivial
  go_wp2_with (go_at_call 18; clear G4; refine Calls.mono (cmp_z _ _ _ _ _ _ (by exact H2.out) (by exact H3.out) (by exact HY.out)) ?_; rintro e w2 ⟨rfl, hb⟩; have HB := Lib.hid (hb); replace H1 := Lib.hid (H1.out.step HB.out); replace H2 := Lib.hid (H2.out.step HB.out); replace H3 := Lib.hid (H3.out.step HB.out); replace H4 := Lib.hid (H4.out.step HB.out); replace H5 := Lib.hid (H5.out.step HB.out); replace HW := Lib.hid (bstep HW.out HB.out (Nat.le_refl _)); clear hb HB)
  have G5 : True := trivial
  go_wp2_with (go_at_call 18; clear G5; refine Calls.mono (cmp_z _ _ _ _ _ _ (by exact H1.out) (by exact H3.out) (by exact HZ.out)) ?_; rintro e w2 ⟨rfl, hb⟩; have HB := Lib.hid (hb); replace H1 := Lib.hid (H1.out.step HB.out); replace H2 := Lib.hid (H2.out.step HB.out); replace H3 := Lib.hid (H3.out.step HB.out); replace H4 := Lib.hid (H4.out.step HB.out); replace H5 := Lib.hid (H5.out.step HB.out); replace HW := Lib.hid (bstep HW.out HB.out (Nat.le_refl _)); clear hb HB)
  have G6 : True := trivial
  go_wp2_with (go_at_call 18; clear G6; refine Calls.mono (cmp_z _ _ _ _ _ _ (by exact H2.out) (by exact H1.out) (by exact HX'.out)) ?_; rintro e w2 ⟨rfl, hb⟩; have HB := Lib.hid (hb); replace H1 := Lib.hid (H1.out.step HB.out); replace H2 := Lib.hid (H2.out.step HB.out); replace H3 := Lib.hid (H3.out.step HB.out); replace H4 := Lib.hid (H4.out.step HB.out); replace H5 := Lib.hid (H5.out.step HB.out); replace HW := Lib.hid (bstep HW.out HB.out (Nat.le_refl _)); clear hb HB)
  have G7 : True := trivial
  go_wp2_with (go_at_call 15; clear G7; refine Calls.mono (same_eq _ _ _ _ false _ (by exact H1.out) (by exact H2.out) (by exact HQ.out)) ?_; rintro e w2 ⟨rfl, hb⟩; have HB := Lib.hid (hb); replace H1 := Lib.hid (H1.out.step HB.out); replace H2 := Lib.hid (H2.out.step HB.out); replace H3 := Lib.hid (H3.out.step HB.out); replace H4 := Lib.hid (H4.out.step HB.out); replace H5 := Lib.hid (H5.out.step HB.out); replace HW := Lib.hid (bstep HW.out HB.out (Nat.le_refl _)); clear hb HB)
  have G8 : True := trivial
  go_wp2_with (go_at_call 12; clear G8; refine Calls.mono (awake_any _) ?_; rintro e w2 ⟨rfl, hb⟩; have HB := Lib.hid (hb); replace H1 := Lib.hid (H1.out.step HB.out); replace H2 := Lib.hid (H2.out.step HB.out); replace H3 := Lib.hid (H3.out.step HB.out); replace H4 := Lib.hid (H4.out.step HB.out); replace H5 := Lib.hid (H5.out.step HB.out); replace HW := Lib.hid (bstep HW.out HB.out (Nat.le_refl _)); clear hb HB)
  have G9 : True := trivial
  go_wp2_with (go_at_call 16; clear G9; refine Calls.mono (add_rn _ _ _ _ _ (by exact H2.out) (by exact H1.out) 40 40 (by exact BC.out) (by exact BA.out) (by omega) (by omega)) ?_; rintro e w2 ⟨x6, rfl, hn, hb⟩; have HB := Lib.hid (hb); replace H1 := Lib.hid (H1.out.step HB.out); replace H2 := Lib.hid (H2.out.step HB.out); replace H3 := Lib.hid (H3.out.step HB.out); replace H4 := Lib.hid (H4.out.step HB.out); replace H5 := Lib.hid (H5.out.step HB.out); replace HW := Lib.hid (bstep HW.out HB.out (Nat.le_refl _)); clear hb HB; have H6 := Lib.hid hn; clear hn)
  have G10 : True := trivial
  go_wp2_with (go_at_call 15; clear G10; refine Calls.mono (same_b _ _ _ _ (by have h := H4.out; rw [Nat.add_comm] at h; exact h) (by exact H6.out)) ?_; rintro e w2 ⟨rfl, hb⟩; have HB := Lib.hid (hb); replace H1 := Lib.hid (H1.out.step HB.out); replace H2 := Lib.hid (H2.out.step HB.out); replace H3 := Lib.hid (H3.out.step HB.out); replace H4 := Lib.hid (H4.out.step HB.out); replace H5 := Lib.hid (H5.out.step HB.out); replace HW := Lib.hid (bstep HW.out HB.out (Nat.le_refl _)); clear hb HB; clear H6)
  have G11 : True := trivial
  go_wp2_with (go_at_call 22; clear G11; refine Calls.mono (mul_rn _ _ _ _ _ (by exact H2.out) (by exact H1.out) 40 40 (by exact BC.out) (by exact BA.out) (by omega) (by omega)) ?_; rintro e w2 ⟨x6, rfl, hn, hb⟩; have HB := Lib.hid (hb); replace H1 := Lib.hid (H1.out.step HB.out); replace H2 := Lib.hid (H2.out.step HB.out); replace H3 := Lib.hid (H3.out.step HB.out); replace H4 := Lib.hid (H4.out.step HB.out); replace H5 := Lib.hid (H5.out.step HB.out); replace HW := Lib.hid (bstep HW.out HB.out (Nat.le_refl _)); clear hb HB; have H6 := Lib.hid hn; clear hn)
  have G12 : True := trivial
  go_wp2_with (go_at_call 15; clear G12; refine Calls.mono (same_b _ _ _ _ (by have h := H5.out; rw [Nat.mul_comm] at h; exact h) (by exact H6.out)) ?_; rintro e w2 ⟨rfl, hb⟩; have HB := Lib.hid (hb); replace H1 := Lib.hid (H1.out.step HB.out); replace H2 := Lib.hid (H2.out.step HB.out); replace H3 := Lib.hid (H3.out.step HB.out); replace H4 := Lib.hid (H4.out.step HB.out); replace H5 := Lib.hid (H5.out.step HB.out); replace HW := Lib.hid (bstep HW.out HB.out (Nat.le_refl _)); clear hb HB; clear H6)
  have G13 : True := trivial
  go_wp2_with (go_at_call 16; clear G13; refine Calls.mono (add_rn _ _ _ _ _ (by exact H4.out) (by exact H3.out) 41 40 (by exact S1.out) (by exact BD.out) (by omega) (by omega)) ?_; rintro e w2 ⟨x6, rfl, hn, hb⟩; have HB := Lib.hid (hb); replace H1 := Lib.hid (H1.out.step HB.out); replace H2 := Lib.hid (H2.out.step HB.out); replace H3 := Lib.hid (H3.out.step HB.out); replace H4 := Lib.hid (H4.out.step HB.out); replace H5 := Lib.hid (H5.out.step HB.out); replace HW := Lib.hid (bstep HW.out HB.out (Nat.le_refl _)); clear hb HB; have H6 := Lib.hid hn; clear hn)
  have G14 : True := trivial
  go_wp2_with (go_at_call 16; clear G14; refine Calls.mono (add_rn _ _ _ _ _ (by exact H2.out) (by exact H3.out) 40 40 (by exact BC.out) (by exact BD.out) (by omega) (by omega)) ?_; rintro e w2 ⟨x7, rfl, hn, hb⟩; have HB := Lib.hid (hb); replace H1 := Lib.hid (H1.out.step HB.out); replace H2 := Lib.hid (H2.out.step HB.out); replace H3 := Lib.hid (H3.out.step HB.out); replace H4 := Lib.hid (H4.out.step HB.out); replace H5 := Lib.hid (H5.out.step HB.out); replace H6 := Lib.hid (H6.out.step HB.out); replace HW := Lib.hid (bstep HW.out HB.out (Nat.le_refl _)); clear hb HB; have H7 := Lib.hid hn; clear hn)
  have G15 : True := trivial
  go_wp2_with (go_at_call 16; clear G15; refine Calls.mono (add_rn _ _ _ _ _ (by exact H1.out) (by exact H7.out) 40 41 (by exact BA.out) (by exact S2.out) (by omega) (by omega)) ?_; rintro e w2 ⟨x8, rfl, hn, hb⟩; have HB := Lib.hid (hb); replace H1 := Lib.hid (H1.out.step HB.out); replace H2 := Lib.hid (H2.out.step HB.out); replace H3 := Lib.hid (H3.out.step HB.out); replace H4 := Lib.hid (H4.out.step HB.out); replace H5 := Lib.hid (H5.out.step HB.out); replace H6 := Lib.hid (H6.out.step HB.out); replace HW := Lib.hid (bstep HW.out HB.out (Nat.le_refl _)); clear hb HB; clear H7; have H8 := Lib.hid hn; clear hn)
  have G16 : True := trivial
  go_wp2_with (go_at_call 15; clear G16; refine Calls.mono (same_b _ _ _ _ (by have h := H6.out; rw [Nat.add_assoc] at h; exact h) (by exact H8.out)) ?_; rintro e w2 ⟨rfl, hb⟩; have HB := Lib.hid (hb); replace H1 := Lib.hid (H1.out.step HB.out); replace H2 := Lib.hid (H2.out.step HB.out); replace H3 := Lib.hid (H3.out.step HB.out); replace H4 := Lib.hid (H4.out.step HB.out); replace H5 := Lib.hid (H5.out.step HB.out); replace HW := Lib.hid (bstep HW.out HB.out (Nat.le_refl _)); clear hb HB; clear H6 H8)
  have G17 : True := trivial
  go_wp2_with (go_at_call 22; clear G17; refine Calls.mono (mul_rn _ _ _ _ _ (by exact H5.out) (by exact H3.out) 80 40 (by exact M1.out) (by exact BD.out) (by omega) (by omega)) ?_; rintro e w2 ⟨x6, rfl, hn, hb⟩; have HB := Lib.hid (hb); replace H1 := Lib.hid (H1.out.step HB.out); replace H2 := Lib.hid (H2.out.step HB.out); replace H3 := Lib.hid (H3.out.step HB.out); replace H4 := Lib.hid (H4.out.step HB.out); replace H5 := Lib.hid (H5.out.step HB.out); replace HW := Lib.hid (bstep HW.out HB.out (Nat.le_refl _)); clear hb HB; have H6 := Lib.hid hn; clear hn)
  have G18 : True := trivial
  go_wp2_with (go_at_call 22; clear G18; refine Calls.mono (mul_rn _ _ _ _ _ (by exact H2.out) (by exact H3.out) 40 40 (by exact BC.out) (by exact BD.out) (by omega) (by omega)) ?_; rintro e w2 ⟨x7, rfl, hn, hb⟩; have HB := Lib.hid (hb); replace H1 := Lib.hid (H1.out.step HB.out); replace H2 := Lib.hid (H2.out.step HB.out); replace H3 := Lib.hid (H3.out.step HB.out); replace H4 := Lib.hid (H4.out.step HB.out); replace H5 := Lib.hid (H5.out.step HB.out); replace H6 := Lib.hid (H6.out.step HB.out); replace HW := Lib.hid (bstep HW.out HB.out (Nat.le_refl _)); clear hb HB; have H7 := Lib.hid hn; clear hn)
  have G19 : True := trivial
  go_wp2_with (go_at_call 22; clear G19; refine Calls.mono (mul_rn _ _ _ _ _ (by exact H1.out) (by exact H7.out) 40 80 (by exact BA.out) (by exact M2.out) (by omega) (by omega)) ?_; rintro e w2 ⟨x8, rfl, hn, hb⟩; have HB := Lib.hid (hb); replace H1 := Lib.hid (H1.out.step HB.out); replace H2 := Lib.hid (H2.out.step HB.out); replace H3 := Lib.hid (H3.out.step HB.out); replace H4 := Lib.hid (H4.out.step HB.out); replace H5 := Lib.hid (H5.out.step HB.out); replace H6 := Lib.hid (H6.out.step HB.out); replace HW := Lib.hid (bstep HW.out HB.out (Nat.le_refl _)); clear hb HB; clear H7; have H8 := Lib.hid hn; clear hn)
  have G20 : True := trivial
  go_wp2_with (go_at_call 15; clear G20; refine Calls.mono (same_b _ _ _ _ (by have h := H6.out; rw [Nat.mul_assoc] at h; exact h) (by exact H8.out)) ?_; rintro e w2 ⟨rfl, hb⟩; have HB := Lib.hid (hb); replace H1 := Lib.hid (H1.out.step HB.out); replace H2 := Lib.hid (H2.out.step HB.out); replace H3 := Lib.hid (H3.out.step HB.out); replace H4 := Lib.hid (H4.out.step HB.out); replace H5 := Lib.hid (H5.out.step HB.out); replace HW := Lib.hid (bstep HW.out HB.out (Nat.le_refl _)); clear hb HB; clear H6 H8)
  have G21 : True := trivial
  go_wp2_with (go_at_call 22; clear G21; refine Calls.mono (mul_rn _ _ _ _ _ (by exact H4.out) (by exact H3.out) 41 40 (by exact S1.out) (by exact BD.out) (by omega) (by omega)) ?_; rintro e w2 ⟨x6, rfl, hn, hb⟩; have HB := Lib.hid (hb); replace H1 := Lib.hid (H1.out.step HB.out); replace H2 := Lib.hid (H2.out.step HB.out); replace H3 := Lib.hid (H3.out.step HB.out); replace H4 := Lib.hid (H4.out.step HB.out); replace H5 := Lib.hid (H5.out.step HB.out); replace HW := Lib.hid (bstep HW.out HB.out (Nat.le_refl _)); clear hb HB; have H6 := Lib.hid hn; clear hn)
  have G22 : True := trivial
  go_wp2_with (go_at_call 22; clear G22; refine Calls.mono (mul_rn _ _ _ _ _ (by exact H1.out) (by exact H3.out) 40 40 (by exact BA.out) (by exact BD.out) (by omega) (by omega)) ?_; rintro e w2 ⟨x7, rfl, hn, hb⟩; have HB := Lib.hid (hb); replace H1 := Lib.hid (H1.out.step HB.out); replace H2 := Lib.hid (H2.out.step HB.out); replace H3 := Lib.hid (H3.out.step HB.out); replace H4 := Lib.hid (H4.out.step HB.out); replace H5 := Lib.hid (H5.out.step HB.out); replace H6 := Lib.hid (H6.out.step HB.out); replace HW := Lib.hid (bstep HW.out HB.out (Nat.le_refl _)); clear hb HB; have H7 := Lib.hid hn; clear hn)
  have G23 : True := trivial
  go_wp2_with (go_at_call 22; clear G23; refine Calls.mono (mul_rn _ _ _ _ _ (by exact H2.out) (by exact H3.out) 40 40 (by exact BC.out) (by exact BD.out) (by omega) (by omega)) ?_; rintro e w2 ⟨x8, rfl, hn, hb⟩; have HB := Lib.hid (hb); replace H1 := Lib.hid (H1.out.step HB.out); replace H2 := Lib.hid (H2.out.step HB.out); replace H3 := Lib.hid (H3.out.step HB.out); replace H4 := Lib.hid (H4.out.step HB.out); replace H5 := Lib.hid (H5.out.step HB.out); replace H6 := Lib.hid (H6.out.step HB.out); replace H7 := Lib.hid (H7.out.step HB.out); replace HW := Lib.hid (bstep HW.out HB.out (Nat.le_refl _)); clear hb HB; have H8 := Lib.hid hn; clear hn)
  have G24 : True := trivial
  go_wp2_with (go_at_call 16; clear G24; refine Calls.mono (add_rn _ _ _ _ _ (by exact H7.out) (by exact H8.out) 80 80 (by exact M3.out) (by exact M2.out) (by omega) (by omega)) ?_; rintro e w2 ⟨x9, rfl, hn, hb⟩; have HB := Lib.hid (hb); replace H1 := Lib.hid (H1.out.step HB.out); replace H2 := Lib.hid (H2.out.step HB.out); replace H3 := Lib.hid (H3.out.step HB.out); replace H4 := Lib.hid (H4.out.step HB.out); replace H5 := Lib.hid (H5.out.step HB.out); replace H6 := Lib.hid (H6.out.step HB.out); replace HW := Lib.hid (bstep HW.out HB.out (Nat.le_refl _)); clear hb HB; clear H7 H8; have H9 := Lib.hid hn; clear hn)
  have G25 : True := trivial
  go_wp2_with (go_at_call 15; clear G25; refine Calls.mono (same_b _ _ _ _ (by have h := H6.out; rw [Nat.add_mul] at h; exact h) (by exact H9.out)) ?_; rintro e w2 ⟨rfl, hb⟩; have HB := Lib.hid (hb); replace H1 := Lib.hid (H1.out.step HB.out); replace H2 := Lib.hid (H2.out.step HB.out); replace H3 := Lib.hid (H3.out.step HB.out); replace H4 := Lib.hid (H4.out.step HB.out); replace H5 := Lib.hid (H5.out.step HB.out); replace HW := Lib.hid (bstep HW.out HB.out (Nat.le_refl _)); clear hb HB; clear H6 H9)
  have G26 : True := trivial
  go_wp2_with (go_at_call 36; clear G26; refine Calls.mono (right_b _ _ _ (by exact H4.out)) ?_; rintro e w2 ⟨rfl, rfl⟩)
  have G27 : True := trivial
  go_wp2_with (go_at_call 36; clear G27; refine Calls.mono (right_b _ _ _ (by exact H5.out)) ?_; rintro e w2 ⟨rfl, rfl⟩)
  go_ret
  exact ⟨rfl, HW.out⟩
set_option maxHeartbeats 1600000 in
theorem natLaws_eq1 (va vc vd : Value) (A C D : List Nat) (w : World) (hA : SL w va A) (hC : SL w vc C) (hD : SL w vd D) (hm : mayB A C = true) (hm2 : mayB D [] = true) (y z : Int) (hx : cmpN (val A) (val C) = 0) (hx' : cmpN (val C) (val A) = 0) (hy : cmpN (val C) (val D) = y) (hz : cmpN (val A) (val D) = z) (hq : decide (val A = val C) = true) (hyz : 0 < y) : Calls Try.prog 10 #[va, vc, vd] w (fun e w' => e = .returned (.bool true) ∧ Below w.heap.size w w') := by
  have HA := Lib.hid hA
  have HC := Lib.hid hC
  have HD := Lib.hid hD
  have HM := Lib.hid hm
  have HM2 := Lib.hid hm2
  obtain ⟨l1, l2, t1, t2⟩ := mayB.parts hm
  obtain ⟨l3, _, t3, _⟩ := mayB.parts hm2
  have BA := Lib.hid (val_B hA l1)
  have BC := Lib.hid (val_B hC l2)
  have BD := Lib.hid (val_B hD l3)
  have H1 := Lib.hid (show RN w va (val A) from ⟨A, hA, Top.of t1, rfl⟩)
  have H2 := Lib.hid (show RN w vc (val C) from ⟨C, hC, Top.of t2, rfl⟩)
  have H3 := Lib.hid (show RN w vd (val D) from ⟨D, hD, Top.of t3, rfl⟩)
  have HW := Lib.hid (Below.refl w.heap.size w)
  have HX := Lib.hid hx
  have HX' := Lib.hid hx'
  have HY := Lib.hid hy
  have HZ := Lib.hid hz
  have HQ := Lib.hid hq
  have S1 : Hid (val A + val C < B 41) := Nat.lt_of_lt_of_le (Nat.add_lt_add BA.out BC.out) (by decide)
  have S2 : Hid (val C + val D < B 41) := Nat.lt_of_lt_of_le (Nat.add_lt_add BC.out BD.out) (by decide)
  have M1 : Hid (val A * val C < B 80) := by show _ < B (40 + 40); rw [B_add]; exact Nat.mul_lt_mul_of_lt_of_le BA.out (Nat.le_of_lt BC.out) (B_pos _)
  have M2 : Hid (val C * val D < B 80) := by show _ < B (40 + 40); rw [B_add]; exact Nat.mul_lt_mul_of_lt_of_le BC.out (Nat.le_of_lt BD.out) (B_pos _)
  have M3 : Hid (val A * val D < B 80) := by show _ < B (40 + 40); rw [B_add]; exact Nat.mul_lt_mul_of_lt_of_le BA.out (Nat.le_of_lt BD.out) (B_pos _)
  clear hA hC hD hm hm2 t1 t2 t3 l1 l2 l3 hx hx' hy hz hq
  go_enter Try.func10, Try.ntmps10
  go_wp2_with (first | (go_at_call 11; refine Calls.mono (may_yes _ _ A C _ (by exact HA.out) (by exact HC.out) (by exact HM.out)) ?_; rintro e w2 ⟨rfl, rfl⟩) | (go_at_call 11; refine Calls.mono (may_yes _ _ D [] _ (by exact HD.out) (by exact SL.nil _) (by exact HM2.out)) ?_; rintro e w2 ⟨rfl, rfl⟩))
  clear HA HC HD
  have G1 : True := trivial
  go_wp2_with (go_at_call 16; clear G1; refine Calls.mono (add_rn _ _ _ _ _ (by exact H1.out) (by exact H2.out) 40 40 (by exact BA.out) (by exact BC.out) (by omega) (by omega)) ?_; rintro e w2 ⟨x4, rfl, hn, hb⟩; have HB := Lib.hid (hb); replace H1 := Lib.hid (H1.out.step HB.out); replace H2 := Lib.hid (H2.out.step HB.out); replace H3 := Lib.hid (H3.out.step HB.out); replace HW := Lib.hid (bstep HW.out HB.out (Nat.le_refl _)); clear hb HB; have H4 := Lib.hid hn; clear hn)
  have G2 : True := trivial
  go_wp2_with (go_at_call 22; clear G2; refine Calls.mono (mul_rn _ _ _ _ _ (by exact H1.out) (by exact H2.out) 40 40 (by exact BA.out) (by exact BC.out) (by omega) (by omega)) ?_; rintro e w2 ⟨x5, rfl, hn, hb⟩; have HB := Lib.hid (hb); replace H1 := Lib.hid (H1.out.step HB.out); replace H2 := Lib.hid (H2.out.step HB.out); replace H3 := Lib.hid (H3.out.step HB.out); replace H4 := Lib.hid (H4.out.step HB.out); replace HW := Lib.hid (bstep HW.out HB.out (Nat.le_refl _)); clear hb HB; have H5 := Lib.hid hn; clear hn)
  have G3 : True := trivial
  go_wp2_with (go_at_call 18; clear G3; refine Calls.mono (cmp_z _ _ _ _ _ _ (by exact H1.out) (by exact H2.out) (by exact HX.out)) ?_; rintro e w2 ⟨rfl, hb⟩; have HB := Lib.hid (hb); replace H1 := Lib.hid (H1.out.step HB.out); replace H2 := Lib.hid (H2.out.step HB.out); replace H3 := Lib.hid (H3.out.step HB.out); replace H4 := Lib.hid (H4.out.step HB.out); replace H5 := Lib.hid (H5.out.step HB.out); replace HW := Lib.hid (bstep HW.out HB.out (Nat.le_refl _)); clear hb HB)
  have G4 : True := trivial
  go_wp2_with (go_at_call 18; clear G4; refine Calls.mono (cmp_z _ _ _ _ _ _ (by exact H2.out) (by exact H3.out) (by exact HY.out)) ?_; rintro e w2 ⟨rfl, hb⟩; have HB := Lib.hid (hb); replace H1 := Lib.hid (H1.out.step HB.out); replace H2 := Lib.hid (H2.out.step HB.out); replace H3 := Lib.hid (H3.out.step HB.out); replace H4 := Lib.hid (H4.out.step HB.out); replace H5 := Lib.hid (H5.out.step HB.out); replace HW := Lib.hid (bstep HW.out HB.out (Nat.le_refl _)); clear hb HB)
  have G5 : True := trivial
  go_wp2_with (go_at_call 18; clear G5; refine Calls.mono (cmp_z _ _ _ _ _ _ (by exact H1.out) (by exact H3.out) (by exact HZ.out)) ?_; rintro e w2 ⟨rfl, hb⟩; have HB := Lib.hid (hb); replace H1 := Lib.hid (H1.out.step HB.out); replace H2 := Lib.hid (H2.out.step HB.out); replace H3 := Lib.hid (H3.out.step HB.out); replace H4 := Lib.hid (H4.out.step HB.out); replace H5 := Lib.hid (H5.out.step HB.out); replace HW := Lib.hid (bstep HW.out HB.out (Nat.le_refl _)); clear hb HB)
  have G6 : True := trivial
  go_wp2_with (go_at_call 18; clear G6; refine Calls.mono (cmp_z _ _ _ _ _ _ (by exact H2.out) (by exact H1.out) (by exact HX'.out)) ?_; rintro e w2 ⟨rfl, hb⟩; have HB := Lib.hid (hb); replace H1 := Lib.hid (H1.out.step HB.out); replace H2 := Lib.hid (H2.out.step HB.out); replace H3 := Lib.hid (H3.out.step HB.out); replace H4 := Lib.hid (H4.out.step HB.out); replace H5 := Lib.hid (H5.out.step HB.out); replace HW := Lib.hid (bstep HW.out HB.out (Nat.le_refl _)); clear hb HB)
  have G7 : True := trivial
  go_wp2_with (go_at_call 15; clear G7; refine Calls.mono (same_eq _ _ _ _ true _ (by exact H1.out) (by exact H2.out) (by exact HQ.out)) ?_; rintro e w2 ⟨rfl, hb⟩; have HB := Lib.hid (hb); replace H1 := Lib.hid (H1.out.step HB.out); replace H2 := Lib.hid (H2.out.step HB.out); replace H3 := Lib.hid (H3.out.step HB.out); replace H4 := Lib.hid (H4.out.step HB.out); replace H5 := Lib.hid (H5.out.step HB.out); replace HW := Lib.hid (bstep HW.out HB.out (Nat.le_refl _)); clear hb HB)
  have G8 : True := trivial
  go_wp2_with (go_at_call 12; clear G8; refine Calls.mono (awake_any _) ?_; rintro e w2 ⟨rfl, hb⟩; have HB := Lib.hid (hb); replace H1 := Lib.hid (H1.out.step HB.out); replace H2 := Lib.hid (H2.out.step HB.out); replace H3 := Lib.hid (H3.out.step HB.out); replace H4 := Lib.hid (H4.out.step HB.out); replace H5 := Lib.hid (H5.out.step HB.out); replace HW := Lib.hid (bstep HW.out HB.out (Nat.le_refl _)); clear hb HB)
  have G9 : True := trivial
  go_wp2_with (go_at_call 16; clear G9; refine Calls.mono (add_rn _ _ _ _ _ (by exact H2.out) (by exact H1.out) 40 40 (by exact BC.out) (by exact BA.out) (by omega) (by omega)) ?_; rintro e w2 ⟨x6, rfl, hn, hb⟩; have HB := Lib.hid (hb); replace H1 := Lib.hid (H1.out.step HB.out); replace H2 := Lib.hid (H2.out.step HB.out); replace H3 := Lib.hid (H3.out.step HB.out); replace H4 := Lib.hid (H4.out.step HB.out); replace H5 := Lib.hid (H5.out.step HB.out); replace HW := Lib.hid (bstep HW.out HB.out (Nat.le_refl _)); clear hb HB; have H6 := Lib.hid hn; clear hn)
  have G10 : True := trivial
  go_wp2_with (go_at_call 15; clear G10; refine Calls.mono (same_b _ _ _ _ (by have h := H4.out; rw [Nat.add_comm] at h; exact h) (by exact H6.out)) ?_; rintro e w2 ⟨rfl, hb⟩; have HB := Lib.hid (hb); replace H1 := Lib.hid (H1.out.step HB.out); replace H2 := Lib.hid (H2.out.step HB.out); replace H3 := Lib.hid (H3.out.step HB.out); replace H4 := Lib.hid (H4.out.step HB.out); replace H5 := Lib.hid (H5.out.step HB.out); replace HW := Lib.hid (bstep HW.out HB.out (Nat.le_refl _)); clear hb HB; clear H6)
  have G11 : True := trivial
  go_wp2_with (go_at_call 22; clear G11; refine Calls.mono (mul_rn _ _ _ _ _ (by exact H2.out) (by exact H1.out) 40 40 (by exact BC.out) (by exact BA.out) (by omega) (by omega)) ?_; rintro e w2 ⟨x6, rfl, hn, hb⟩; have HB := Lib.hid (hb); replace H1 := Lib.hid (H1.out.step HB.out); replace H2 := Lib.hid (H2.out.step HB.out); replace H3 := Lib.hid (H3.out.step HB.out); replace H4 := Lib.hid (H4.out.step HB.out); replace H5 := Lib.hid (H5.out.step HB.out); replace HW := Lib.hid (bstep HW.out HB.out (Nat.le_refl _)); clear hb HB; have H6 := Lib.hid hn; clear hn)
  have G12 : True := trivial
  go_wp2_with (go_at_call 15; clear G12; refine Calls.mono (same_b _ _ _ _ (by have h := H5.out; rw [Nat.mul_comm] at h; exact h) (by exact H6.out)) ?_; rintro e w2 ⟨rfl, hb⟩; have HB := Lib.hid (hb); replace H1 := Lib.hid (H1.out.step HB.out); replace H2 := Lib.hid (H2.out.step HB.out); replace H3 := Lib.hid (H3.out.step HB.out); replace H4 := Lib.hid (H4.out.step HB.out); replace H5 := Lib.hid (H5.out.step HB.out); replace HW := Lib.hid (bstep HW.out HB.out (Nat.le_refl _)); clear hb HB; clear H6)
  have G13 : True := trivial
  go_wp2_with (go_at_call 16; clear G13; refine Calls.mono (add_rn _ _ _ _ _ (by exact H4.out) (by exact H3.out) 41 40 (by exact S1.out) (by exact BD.out) (by omega) (by omega)) ?_; rintro e w2 ⟨x6, rfl, hn, hb⟩; have HB := Lib.hid (hb); replace H1 := Lib.hid (H1.out.step HB.out); replace H2 := Lib.hid (H2.out.step HB.out); replace H3 := Lib.hid (H3.out.step HB.out); replace H4 := Lib.hid (H4.out.step HB.out); replace H5 := Lib.hid (H5.out.step HB.out); replace HW := Lib.hid (bstep HW.out HB.out (Nat.le_refl _)); clear hb HB; have H6 := Lib.hid hn; clear hn)
  have G14 : True := trivial
  go_wp2_with (go_at_call 16; clear G14; refine Calls.mono (add_rn _ _ _ _ _ (by exact H2.out) (by exact H3.out) 40 40 (by exact BC.out) (by exact BD.out) (by omega) (by omega)) ?_; rintro e w2 ⟨x7, rfl, hn, hb⟩; have HB := Lib.hid (hb); replace H1 := Lib.hid (H1.out.step HB.out); replace H2 := Lib.hid (H2.out.step HB.out); replace H3 := Lib.hid (H3.out.step HB.out); replace H4 := Lib.hid (H4.out.step HB.out); replace H5 := Lib.hid (H5.out.step HB.out); replace H6 := Lib.hid (H6.out.step HB.out); replace HW := Lib.hid (bstep HW.out HB.out (Nat.le_refl _)); clear hb HB; have H7 := Lib.hid hn; clear hn)
  have G15 : True := trivial
  go_wp2_with (go_at_call 16; clear G15; refine Calls.mono (add_rn _ _ _ _ _ (by exact H1.out) (by exact H7.out) 40 41 (by exact BA.out) (by exact S2.out) (by omega) (by omega)) ?_; rintro e w2 ⟨x8, rfl, hn, hb⟩; have HB := Lib.hid (hb); replace H1 := Lib.hid (H1.out.step HB.out); replace H2 := Lib.hid (H2.out.step HB.out); replace H3 := Lib.hid (H3.out.step HB.out); replace H4 := Lib.hid (H4.out.step HB.out); replace H5 := Lib.hid (H5.out.step HB.out); replace H6 := Lib.hid (H6.out.step HB.out); replace HW := Lib.hid (bstep HW.out HB.out (Nat.le_refl _)); clear hb HB; clear H7; have H8 := Lib.hid hn; clear hn)
  have G16 : True := trivial
  go_wp2_with (go_at_call 15; clear G16; refine Calls.mono (same_b _ _ _ _ (by have h := H6.out; rw [Nat.add_assoc] at h; exact h) (by exact H8.out)) ?_; rintro e w2 ⟨rfl, hb⟩; have HB := Lib.hid (hb); replace H1 := Lib.hid (H1.out.step HB.out); replace H2 := Lib.hid (H2.out.step HB.out); replace H3 := Lib.hid (H3.out.step HB.out); replace H4 := Lib.hid (H4.out.step HB.out); replace H5 := Lib.hid (H5.out.step HB.out); replace HW := Lib.hid (bstep HW.out HB.out (Nat.le_refl _)); clear hb HB; clear H6 H8)
  have G17 : True := trivial
  go_wp2_with (go_at_call 22; clear G17; refine Calls.mono (mul_rn _ _ _ _ _ (by exact H5.out) (by exact H3.out) 80 40 (by exact M1.out) (by exact BD.out) (by omega) (by omega)) ?_; rintro e w2 ⟨x6, rfl, hn, hb⟩; have HB := Lib.hid (hb); replace H1 := Lib.hid (H1.out.step HB.out); replace H2 := Lib.hid (H2.out.step HB.out); replace H3 := Lib.hid (H3.out.step HB.out); replace H4 := Lib.hid (H4.out.step HB.out); replace H5 := Lib.hid (H5.out.step HB.out); replace HW := Lib.hid (bstep HW.out HB.out (Nat.le_refl _)); clear hb HB; have H6 := Lib.hid hn; clear hn)
  have G18 : True := trivial
  go_wp2_with (go_at_call 22; clear G18; refine Calls.mono (mul_rn _ _ _ _ _ (by exact H2.out) (by exact H3.out) 40 40 (by exact BC.out) (by exact BD.out) (by omega) (by omega)) ?_; rintro e w2 ⟨x7, rfl, hn, hb⟩; have HB := Lib.hid (hb); replace H1 := Lib.hid (H1.out.step HB.out); replace H2 := Lib.hid (H2.out.step HB.out); replace H3 := Lib.hid (H3.out.step HB.out); replace H4 := Lib.hid (H4.out.step HB.out); replace H5 := Lib.hid (H5.out.step HB.out); replace H6 := Lib.hid (H6.out.step HB.out); replace HW := Lib.hid (bstep HW.out HB.out (Nat.le_refl _)); clear hb HB; have H7 := Lib.hid hn; clear hn)
  have G19 : True := trivial
  go_wp2_with (go_at_call 22; clear G19; refine Calls.mono (mul_rn _ _ _ _ _ (by exact H1.out) (by exact H7.out) 40 80 (by exact BA.out) (by exact M2.out) (by omega) (by omega)) ?_; rintro e w2 ⟨x8, rfl, hn, hb⟩; have HB := Lib.hid (hb); replace H1 := Lib.hid (H1.out.step HB.out); replace H2 := Lib.hid (H2.out.step HB.out); replace H3 := Lib.hid (H3.out.step HB.out); replace H4 := Lib.hid (H4.out.step HB.out); replace H5 := Lib.hid (H5.out.step HB.out); replace H6 := Lib.hid (H6.out.step HB.out); replace HW := Lib.hid (bstep HW.out HB.out (Nat.le_refl _)); clear hb HB; clear H7; have H8 := Lib.hid hn; clear hn)
  have G20 : True := trivial
  go_wp2_with (go_at_call 15; clear G20; refine Calls.mono (same_b _ _ _ _ (by have h := H6.out; rw [Nat.mul_assoc] at h; exact h) (by exact H8.out)) ?_; rintro e w2 ⟨rfl, hb⟩; have HB := Lib.hid (hb); replace H1 := Lib.hid (H1.out.step HB.out); replace H2 := Lib.hid (H2.out.step HB.out); replace H3 := Lib.hid (H3.out.step HB.out); replace H4 := Lib.hid (H4.out.step HB.out); replace H5 := Lib.hid (H5.out.step HB.out); replace HW := Lib.hid (bstep HW.out HB.out (Nat.le_refl _)); clear hb HB; clear H6 H8)
  have G21 : True := trivial
  go_wp2_with (go_at_call 22; clear G21; refine Calls.mono (mul_rn _ _ _ _ _ (by exact H4.out) (by exact H3.out) 41 40 (by exact S1.out) (by exact BD.out) (by omega) (by omega)) ?_; rintro e w2 ⟨x6, rfl, hn, hb⟩; have HB := Lib.hid (hb); replace H1 := Lib.hid (H1.out.step HB.out); replace H2 := Lib.hid (H2.out.step HB.out); replace H3 := Lib.hid (H3.out.step HB.out); replace H4 := Lib.hid (H4.out.step HB.out); replace H5 := Lib.hid (H5.out.step HB.out); replace HW := Lib.hid (bstep HW.out HB.out (Nat.le_refl _)); clear hb HB; have H6 := Lib.hid hn; clear hn)
  have G22 : True := trivial
  go_wp2_with (go_at_call 22; clear G22; refine Calls.mono (mul_rn _ _ _ _ _ (by exact H1.out) (by exact H3.out) 40 40 (by exact BA.out) (by exact BD.out) (by omega) (by omega)) ?_; rintro e w2 ⟨x7, rfl, hn, hb⟩; have HB := Lib.hid (hb); replace H1 := Lib.hid (H1.out.step HB.out); replace H2 := Lib.hid (H2.out.step HB.out); replace H3 := Lib.hid (H3.out.step HB.out); replace H4 := Lib.hid (H4.out.step HB.out); replace H5 := Lib.hid (H5.out.step HB.out); replace H6 := Lib.hid (H6.out.step HB.out); replace HW := Lib.hid (bstep HW.out HB.out (Nat.le_refl _)); clear hb HB; have H7 := Lib.hid hn; clear hn)
  have G23 : True := trivial
  go_wp2_with (go_at_call 22; clear G23; refine Calls.mono (mul_rn _ _ _ _ _ (by exact H2.out) (by exact H3.out) 40 40 (by exact BC.out) (by exact BD.out) (by omega) (by omega)) ?_; rintro e w2 ⟨x8, rfl, hn, hb⟩; have HB := Lib.hid (hb); replace H1 := Lib.hid (H1.out.step HB.out); replace H2 := Lib.hid (H2.out.step HB.out); replace H3 := Lib.hid (H3.out.step HB.out); replace H4 := Lib.hid (H4.out.step HB.out); replace H5 := Lib.hid (H5.out.step HB.out); replace H6 := Lib.hid (H6.out.step HB.out); replace H7 := Lib.hid (H7.out.step HB.out); replace HW := Lib.hid (bstep HW.out HB.out (Nat.le_refl _)); clear hb HB; have H8 := Lib.hid hn; clear hn)
  have G24 : True := trivial
  go_wp2_with (go_at_call 16; clear G24; refine Calls.mono (add_rn _ _ _ _ _ (by exact H7.out) (by exact H8.out) 80 80 (by exact M3.out) (by exact M2.out) (by omega) (by omega)) ?_; rintro e w2 ⟨x9, rfl, hn, hb⟩; have HB := Lib.hid (hb); replace H1 := Lib.hid (H1.out.step HB.out); replace H2 := Lib.hid (H2.out.step HB.out); replace H3 := Lib.hid (H3.out.step HB.out); replace H4 := Lib.hid (H4.out.step HB.out); replace H5 := Lib.hid (H5.out.step HB.out); replace H6 := Lib.hid (H6.out.step HB.out); replace HW := Lib.hid (bstep HW.out HB.out (Nat.le_refl _)); clear hb HB; clear H7 H8; have H9 := Lib.hid hn; clear hn)
  have G25 : True := trivial
  go_wp2_with (go_at_call 15; clear G25; refine Calls.mono (same_b _ _ _ _ (by have h := H6.out; rw [Nat.add_mul] at h; exact h) (by exact H9.out)) ?_; rintro e w2 ⟨rfl, hb⟩; have HB := Lib.hid (hb); replace H1 := Lib.hid (H1.out.step HB.out); replace H2 := Lib.hid (H2.out.step HB.out); replace H3 := Lib.hid (H3.out.step HB.out); replace H4 := Lib.hid (H4.out.step HB.out); replace H5 := Lib.hid (H5.out.step HB.out); replace HW := Lib.hid (bstep HW.out HB.out (Nat.le_refl _)); clear hb HB; clear H6 H9)
  have G26 : True := trivial
  go_wp2_with (go_at_call 36; clear G26; refine Calls.mono (right_b _ _ _ (by exact H4.out)) ?_; rintro e w2 ⟨rfl, rfl⟩)
  have G27 : True := trivial
  go_wp2_with (go_at_call 36; clear G27; refine Calls.mono (right_b _ _ _ (by exact H5.out)) ?_; rintro e w2 ⟨rfl, rfl⟩)
  go_ret
  exact ⟨rfl, HW.out⟩
set_option maxHeartbeats 1600000 in
theorem natLaws_eq2 (va vc vd : Value) (A C D : List Nat) (w : World) (hA : SL w va A) (hC : SL w vc C) (hD : SL w vd D) (hm : mayB A C = true) (hm2 : mayB D [] = true) (y z : Int) (hx : cmpN (val A) (val C) = 0) (hx' : cmpN (val C) (val A) = 0) (hy : cmpN (val C) (val D) = y) (hz : cmpN (val A) (val D) = z) (hq : decide (val A = val C) = true) (hyz : y ≤ 0) (hyz2 : z ≤ 0) : Calls Try.prog 10 #[va, vc, vd] w (fun e w' => e = .returned (.bool true) ∧ Below w.heap.size w w') := by
  have HA := Lib.hid hA
  have HC := Lib.hid hC
  have HD := Lib.hid hD
  have HM := Lib.hid hm
  have HM2 := Lib.hid hm2
  obtain ⟨l1, l2, t1, t2⟩ := mayB.parts hm
  obtain ⟨l3, _, t3, _⟩ := mayB.parts hm2
  have BA := Lib.hid (val_B hA l1)
  have BC := Lib.hid (val_B hC l2)
  have BD := Lib.hid (val_B hD l3)
  have H1 := Lib.hid (show RN w va (val A) from ⟨A, hA, Top.of t1, rfl⟩)
  have H2 := Lib.hid (show RN w vc (val C) from ⟨C, hC, Top.of t2, rfl⟩)
  have H3 := Lib.hid (show RN w vd (val D) from ⟨D, hD, Top.of t3, rfl⟩)
  have HW := Lib.hid (Below.refl w.heap.size w)
  have HX := Lib.hid hx
  have HX' := Lib.hid hx'
  have HY := Lib.hid hy
  have HZ := Lib.hid hz
  have HQ := Lib.hid hq
  have S1 : Hid (val A + val C < B 41) := Nat.lt_of_lt_of_le (Nat.add_lt_add BA.out BC.out) (by decide)
  have S2 : Hid (val C + val D < B 41) := Nat.lt_of_lt_of_le (Nat.add_lt_add BC.out BD.out) (by decide)
  have M1 : Hid (val A * val C < B 80) := by show _ < B (40 + 40); rw [B_add]; exact Nat.mul_lt_mul_of_lt_of_le BA.out (Nat.le_of_lt BC.out) (B_pos _)
  have M2 : Hid (val C * val D < B 80) := by show _ < B (40 + 40); rw [B_add]; exact Nat.mul_lt_mul_of_lt_of_le BC.out (Nat.le_of_lt BD.out) (B_pos _)
  have M3 : Hid (val A * val D < B 80) := by show _ < B (40 + 40); rw [B_add]; exact Nat.mul_lt_mul_of_lt_of_le BA.out (Nat.le_of_lt BD.out) (B_pos _)
  clear hA hC hD hm hm2 t1 t2 t3 l1 l2 l3 hx hx' hy hz hq
  go_enter Try.func10, Try.ntmps10
  go_wp2_with (first | (go_at_call 11; refine Calls.mono (may_yes _ _ A C _ (by exact HA.out) (by exact HC.out) (by exact HM.out)) ?_; rintro e w2 ⟨rfl, rfl⟩) | (go_at_call 11; refine Calls.mono (may_yes _ _ D [] _ (by exact HD.out) (by exact SL.nil _) (by exact HM2.out)) ?_; rintro e w2 ⟨rfl, rfl⟩))
  clear HA HC HD
  have G1 : True := trivial
  go_wp2_with (go_at_call 16; clear G1; refine Calls.mono (add_rn _ _ _ _ _ (by exact H1.out) (by exact H2.out) 40 40 (by exact BA.out) (by exact BC.out) (by omega) (by omega)) ?_; rintro e w2 ⟨x4, rfl, hn, hb⟩; have HB := Lib.hid (hb); replace H1 := Lib.hid (H1.out.step HB.out); replace H2 := Lib.hid (H2.out.step HB.out); replace H3 := Lib.hid (H3.out.step HB.out); replace HW := Lib.hid (bstep HW.out HB.out (Nat.le_refl _)); clear hb HB; have H4 := Lib.hid hn; clear hn)
  have G2 : True := trivial
  go_wp2_with (go_at_call 22; clear G2; refine Calls.mono (mul_rn _ _ _ _ _ (by exact H1.out) (by exact H2.out) 40 40 (by exact BA.out) (by exact BC.out) (by omega) (by omega)) ?_; rintro e w2 ⟨x5, rfl, hn, hb⟩; have HB := Lib.hid (hb); replace H1 := Lib.hid (H1.out.step HB.out); replace H2 := Lib.hid (H2.out.step HB.out); replace H3 := Lib.hid (H3.out.step HB.out); replace H4 := Lib.hid (H4.out.step HB.out); replace HW := Lib.hid (bstep HW.out HB.out (Nat.le_refl _)); clear hb HB; have H5 := Lib.hid hn; clear hn)
  have G3 : True := trivial
  go_wp2_with (go_at_call 18; clear G3; refine Calls.mono (cmp_z _ _ _ _ _ _ (by exact H1.out) (by exact H2.out) (by exact HX.out)) ?_; rintro e w2 ⟨rfl, hb⟩; have HB := Lib.hid (hb); replace H1 := Lib.hid (H1.out.step HB.out); replace H2 := Lib.hid (H2.out.step HB.out); replace H3 := Lib.hid (H3.out.step HB.out); replace H4 := Lib.hid (H4.out.step HB.out); replace H5 := Lib.hid (H5.out.step HB.out); replace HW := Lib.hid (bstep HW.out HB.out (Nat.le_refl _)); clear hb HB)
  have G4 : True := trivial
  go_wp2_with (go_at_call 18; clear G4; refine Calls.mono (cmp_z _ _ _ _ _ _ (by exact H2.out) (by exact H3.out) (by exact HY.out)) ?_; rintro e w2 ⟨rfl, hb⟩; have HB := Lib.hid (hb); replace H1 := Lib.hid (H1.out.step HB.out); replace H2 := Lib.hid (H2.out.step HB.out); replace H3 := Lib.hid (H3.out.step HB.out); replace H4 := Lib.hid (H4.out.step HB.out); replace H5 := Lib.hid (H5.out.step HB.out); replace HW := Lib.hid (bstep HW.out HB.out (Nat.le_refl _)); clear hb HB)
  have G5 : True := trivial
  go_wp2_with (go_at_call 18; clear G5; refine Calls.mono (cmp_z _ _ _ _ _ _ (by exact H1.out) (by exact H3.out) (by exact HZ.out)) ?_; rintro e w2 ⟨rfl, hb⟩; have HB := Lib.hid (hb); replace H1 := Lib.hid (H1.out.step HB.out); replace H2 := Lib.hid (H2.out.step HB.out); replace H3 := Lib.hid (H3.out.step HB.out); replace H4 := Lib.hid (H4.out.step HB.out); replace H5 := Lib.hid (H5.out.step HB.out); replace HW := Lib.hid (bstep HW.out HB.out (Nat.le_refl _)); clear hb HB)
  have G6 : True := trivial
  go_wp2_with (go_at_call 18; clear G6; refine Calls.mono (cmp_z _ _ _ _ _ _ (by exact H2.out) (by exact H1.out) (by exact HX'.out)) ?_; rintro e w2 ⟨rfl, hb⟩; have HB := Lib.hid (hb); replace H1 := Lib.hid (H1.out.step HB.out); replace H2 := Lib.hid (H2.out.step HB.out); replace H3 := Lib.hid (H3.out.step HB.out); replace H4 := Lib.hid (H4.out.step HB.out); replace H5 := Lib.hid (H5.out.step HB.out); replace HW := Lib.hid (bstep HW.out HB.out (Nat.le_refl _)); clear hb HB)
  have G7 : True := trivial
  go_wp2_with (go_at_call 15; clear G7; refine Calls.mono (same_eq _ _ _ _ true _ (by exact H1.out) (by exact H2.out) (by exact HQ.out)) ?_; rintro e w2 ⟨rfl, hb⟩; have HB := Lib.hid (hb); replace H1 := Lib.hid (H1.out.step HB.out); replace H2 := Lib.hid (H2.out.step HB.out); replace H3 := Lib.hid (H3.out.step HB.out); replace H4 := Lib.hid (H4.out.step HB.out); replace H5 := Lib.hid (H5.out.step HB.out); replace HW := Lib.hid (bstep HW.out HB.out (Nat.le_refl _)); clear hb HB)
  have G8 : True := trivial
  go_wp2_with (go_at_call 12; clear G8; refine Calls.mono (awake_any _) ?_; rintro e w2 ⟨rfl, hb⟩; have HB := Lib.hid (hb); replace H1 := Lib.hid (H1.out.step HB.out); replace H2 := Lib.hid (H2.out.step HB.out); replace H3 := Lib.hid (H3.out.step HB.out); replace H4 := Lib.hid (H4.out.step HB.out); replace H5 := Lib.hid (H5.out.step HB.out); replace HW := Lib.hid (bstep HW.out HB.out (Nat.le_refl _)); clear hb HB)
  have G9 : True := trivial
  go_wp2_with (go_at_call 16; clear G9; refine Calls.mono (add_rn _ _ _ _ _ (by exact H2.out) (by exact H1.out) 40 40 (by exact BC.out) (by exact BA.out) (by omega) (by omega)) ?_; rintro e w2 ⟨x6, rfl, hn, hb⟩; have HB := Lib.hid (hb); replace H1 := Lib.hid (H1.out.step HB.out); replace H2 := Lib.hid (H2.out.step HB.out); replace H3 := Lib.hid (H3.out.step HB.out); replace H4 := Lib.hid (H4.out.step HB.out); replace H5 := Lib.hid (H5.out.step HB.out); replace HW := Lib.hid (bstep HW.out HB.out (Nat.le_refl _)); clear hb HB; have H6 := Lib.hid hn; clear hn)
  have G10 : True := trivial
  go_wp2_with (go_at_call 15; clear G10; refine Calls.mono (same_b _ _ _ _ (by have h := H4.out; rw [Nat.add_comm] at h; exact h) (by exact H6.out)) ?_; rintro e w2 ⟨rfl, hb⟩; have HB := Lib.hid (hb); replace H1 := Lib.hid (H1.out.step HB.out); replace H2 := Lib.hid (H2.out.step HB.out); replace H3 := Lib.hid (H3.out.step HB.out); replace H4 := Lib.hid (H4.out.step HB.out); replace H5 := Lib.hid (H5.out.step HB.out); replace HW := Lib.hid (bstep HW.out HB.out (Nat.le_refl _)); clear hb HB; clear H6)
  have G11 : True := trivial
  go_wp2_with (go_at_call 22; clear G11; refine Calls.mono (mul_rn _ _ _ _ _ (by exact H2.out) (by exact H1.out) 40 40 (by exact BC.out) (by exact BA.out) (by omega) (by omega)) ?_; rintro e w2 ⟨x6, rfl, hn, hb⟩; have HB := Lib.hid (hb); replace H1 := Lib.hid (H1.out.step HB.out); replace H2 := Lib.hid (H2.out.step HB.out); replace H3 := Lib.hid (H3.out.step HB.out); replace H4 := Lib.hid (H4.out.step HB.out); replace H5 := Lib.hid (H5.out.step HB.out); replace HW := Lib.hid (bstep HW.out HB.out (Nat.le_refl _)); clear hb HB; have H6 := Lib.hid hn; clear hn)
  have G12 : True := trivial
  go_wp2_with (go_at_call 15; clear G12; refine Calls.mono (same_b _ _ _ _ (by have h := H5.out; rw [Nat.mul_comm] at h; exact h) (by exact H6.out)) ?_; rintro e w2 ⟨rfl, hb⟩; have HB := Lib.hid (hb); replace H1 := Lib.hid (H1.out.step HB.out); replace H2 := Lib.hid (H2.out.step HB.out); replace H3 := Lib.hid (H3.out.step HB.out); replace H4 := Lib.hid (H4.out.step HB.out); replace H5 := Lib.hid (H5.out.step HB.out); replace HW := Lib.hid (bstep HW.out HB.out (Nat.le_refl _)); clear hb HB; clear H6)
  have G13 : True := trivial
  go_wp2_with (go_at_call 16; clear G13; refine Calls.mono (add_rn _ _ _ _ _ (by exact H4.out) (by exact H3.out) 41 40 (by exact S1.out) (by exact BD.out) (by omega) (by omega)) ?_; rintro e w2 ⟨x6, rfl, hn, hb⟩; have HB := Lib.hid (hb); replace H1 := Lib.hid (H1.out.step HB.out); replace H2 := Lib.hid (H2.out.step HB.out); replace H3 := Lib.hid (H3.out.step HB.out); replace H4 := Lib.hid (H4.out.step HB.out); replace H5 := Lib.hid (H5.out.step HB.out); replace HW := Lib.hid (bstep HW.out HB.out (Nat.le_refl _)); clear hb HB; have H6 := Lib.hid hn; clear hn)
  have G14 : True := trivial
  go_wp2_with (go_at_call 16; clear G14; refine Calls.mono (add_rn _ _ _ _ _ (by exact H2.out) (by exact H3.out) 40 40 (by exact BC.out) (by exact BD.out) (by omega) (by omega)) ?_; rintro e w2 ⟨x7, rfl, hn, hb⟩; have HB := Lib.hid (hb); replace H1 := Lib.hid (H1.out.step HB.out); replace H2 := Lib.hid (H2.out.step HB.out); replace H3 := Lib.hid (H3.out.step HB.out); replace H4 := Lib.hid (H4.out.step HB.out); replace H5 := Lib.hid (H5.out.step HB.out); replace H6 := Lib.hid (H6.out.step HB.out); replace HW := Lib.hid (bstep HW.out HB.out (Nat.le_refl _)); clear hb HB; have H7 := Lib.hid hn; clear hn)
  have G15 : True := trivial
  go_wp2_with (go_at_call 16; clear G15; refine Calls.mono (add_rn _ _ _ _ _ (by exact H1.out) (by exact H7.out) 40 41 (by exact BA.out) (by exact S2.out) (by omega) (by omega)) ?_; rintro e w2 ⟨x8, rfl, hn, hb⟩; have HB := Lib.hid (hb); replace H1 := Lib.hid (H1.out.step HB.out); replace H2 := Lib.hid (H2.out.step HB.out); replace H3 := Lib.hid (H3.out.step HB.out); replace H4 := Lib.hid (H4.out.step HB.out); replace H5 := Lib.hid (H5.out.step HB.out); replace H6 := Lib.hid (H6.out.step HB.out); replace HW := Lib.hid (bstep HW.out HB.out (Nat.le_refl _)); clear hb HB; clear H7; have H8 := Lib.hid hn; clear hn)
  have G16 : True := trivial
  go_wp2_with (go_at_call 15; clear G16; refine Calls.mono (same_b _ _ _ _ (by have h := H6.out; rw [Nat.add_assoc] at h; exact h) (by exact H8.out)) ?_; rintro e w2 ⟨rfl, hb⟩; have HB := Lib.hid (hb); replace H1 := Lib.hid (H1.out.step HB.out); replace H2 := Lib.hid (H2.out.step HB.out); replace H3 := Lib.hid (H3.out.step HB.out); replace H4 := Lib.hid (H4.out.step HB.out); replace H5 := Lib.hid (H5.out.step HB.out); replace HW := Lib.hid (bstep HW.out HB.out (Nat.le_refl _)); clear hb HB; clear H6 H8)
  have G17 : True := trivial
  go_wp2_with (go_at_call 22; clear G17; refine Calls.mono (mul_rn _ _ _ _ _ (by exact H5.out) (by exact H3.out) 80 40 (by exact M1.out) (by exact BD.out) (by omega) (by omega)) ?_; rintro e w2 ⟨x6, rfl, hn, hb⟩; have HB := Lib.hid (hb); replace H1 := Lib.hid (H1.out.step HB.out); replace H2 := Lib.hid (H2.out.step HB.out); replace H3 := Lib.hid (H3.out.step HB.out); replace H4 := Lib.hid (H4.out.step HB.out); replace H5 := Lib.hid (H5.out.step HB.out); replace HW := Lib.hid (bstep HW.out HB.out (Nat.le_refl _)); clear hb HB; have H6 := Lib.hid hn; clear hn)
  have G18 : True := trivial
  go_wp2_with (go_at_call 22; clear G18; refine Calls.mono (mul_rn _ _ _ _ _ (by exact H2.out) (by exact H3.out) 40 40 (by exact BC.out) (by exact BD.out) (by omega) (by omega)) ?_; rintro e w2 ⟨x7, rfl, hn, hb⟩; have HB := Lib.hid (hb); replace H1 := Lib.hid (H1.out.step HB.out); replace H2 := Lib.hid (H2.out.step HB.out); replace H3 := Lib.hid (H3.out.step HB.out); replace H4 := Lib.hid (H4.out.step HB.out); replace H5 := Lib.hid (H5.out.step HB.out); replace H6 := Lib.hid (H6.out.step HB.out); replace HW := Lib.hid (bstep HW.out HB.out (Nat.le_refl _)); clear hb HB; have H7 := Lib.hid hn; clear hn)
  have G19 : True := trivial
  go_wp2_with (go_at_call 22; clear G19; refine Calls.mono (mul_rn _ _ _ _ _ (by exact H1.out) (by exact H7.out) 40 80 (by exact BA.out) (by exact M2.out) (by omega) (by omega)) ?_; rintro e w2 ⟨x8, rfl, hn, hb⟩; have HB := Lib.hid (hb); replace H1 := Lib.hid (H1.out.step HB.out); replace H2 := Lib.hid (H2.out.step HB.out); replace H3 := Lib.hid (H3.out.step HB.out); replace H4 := Lib.hid (H4.out.step HB.out); replace H5 := Lib.hid (H5.out.step HB.out); replace H6 := Lib.hid (H6.out.step HB.out); replace HW := Lib.hid (bstep HW.out HB.out (Nat.le_refl _)); clear hb HB; clear H7; have H8 := Lib.hid hn; clear hn)
  have G20 : True := trivial
  go_wp2_with (go_at_call 15; clear G20; refine Calls.mono (same_b _ _ _ _ (by have h := H6.out; rw [Nat.mul_assoc] at h; exact h) (by exact H8.out)) ?_; rintro e w2 ⟨rfl, hb⟩; have HB := Lib.hid (hb); replace H1 := Lib.hid (H1.out.step HB.out); replace H2 := Lib.hid (H2.out.step HB.out); replace H3 := Lib.hid (H3.out.step HB.out); replace H4 := Lib.hid (H4.out.step HB.out); replace H5 := Lib.hid (H5.out.step HB.out); replace HW := Lib.hid (bstep HW.out HB.out (Nat.le_refl _)); clear hb HB; clear H6 H8)
  have G21 : True := trivial
  go_wp2_with (go_at_call 22; clear G21; refine Calls.mono (mul_rn _ _ _ _ _ (by exact H4.out) (by exact H3.out) 41 40 (by exact S1.out) (by exact BD.out) (by omega) (by omega)) ?_; rintro e w2 ⟨x6, rfl, hn, hb⟩; have HB := Lib.hid (hb); replace H1 := Lib.hid (H1.out.step HB.out); replace H2 := Lib.hid (H2.out.step HB.out); replace H3 := Lib.hid (H3.out.step HB.out); replace H4 := Lib.hid (H4.out.step HB.out); replace H5 := Lib.hid (H5.out.step HB.out); replace HW := Lib.hid (bstep HW.out HB.out (Nat.le_refl _)); clear hb HB; have H6 := Lib.hid hn; clear hn)
  have G22 : True := trivial
  go_wp2_with (go_at_call 22; clear G22; refine Calls.mono (mul_rn _ _ _ _ _ (by exact H1.out) (by exact H3.out) 40 40 (by exact BA.out) (by exact BD.out) (by omega) (by omega)) ?_; rintro e w2 ⟨x7, rfl, hn, hb⟩; have HB := Lib.hid (hb); replace H1 := Lib.hid (H1.out.step HB.out); replace H2 := Lib.hid (H2.out.step HB.out); replace H3 := Lib.hid (H3.out.step HB.out); replace H4 := Lib.hid (H4.out.step HB.out); replace H5 := Lib.hid (H5.out.step HB.out); replace H6 := Lib.hid (H6.out.step HB.out); replace HW := Lib.hid (bstep HW.out HB.out (Nat.le_refl _)); clear hb HB; have H7 := Lib.hid hn; clear hn)
  have G23 : True := trivial
  go_wp2_with (go_at_call 22; clear G23; refine Calls.mono (mul_rn _ _ _ _ _ (by exact H2.out) (by exact H3.out) 40 40 (by exact BC.out) (by exact BD.out) (by omega) (by omega)) ?_; rintro e w2 ⟨x8, rfl, hn, hb⟩; have HB := Lib.hid (hb); replace H1 := Lib.hid (H1.out.step HB.out); replace H2 := Lib.hid (H2.out.step HB.out); replace H3 := Lib.hid (H3.out.step HB.out); replace H4 := Lib.hid (H4.out.step HB.out); replace H5 := Lib.hid (H5.out.step HB.out); replace H6 := Lib.hid (H6.out.step HB.out); replace H7 := Lib.hid (H7.out.step HB.out); replace HW := Lib.hid (bstep HW.out HB.out (Nat.le_refl _)); clear hb HB; have H8 := Lib.hid hn; clear hn)
  have G24 : True := trivial
  go_wp2_with (go_at_call 16; clear G24; refine Calls.mono (add_rn _ _ _ _ _ (by exact H7.out) (by exact H8.out) 80 80 (by exact M3.out) (by exact M2.out) (by omega) (by omega)) ?_; rintro e w2 ⟨x9, rfl, hn, hb⟩; have HB := Lib.hid (hb); replace H1 := Lib.hid (H1.out.step HB.out); replace H2 := Lib.hid (H2.out.step HB.out); replace H3 := Lib.hid (H3.out.step HB.out); replace H4 := Lib.hid (H4.out.step HB.out); replace H5 := Lib.hid (H5.out.step HB.out); replace H6 := Lib.hid (H6.out.step HB.out); replace HW := Lib.hid (bstep HW.out HB.out (Nat.le_refl _)); clear hb HB; clear H7 H8; have H9 := Lib.hid hn; clear hn)
  have G25 : True := trivial
  go_wp2_with (go_at_call 15; clear G25; refine Calls.mono (same_b _ _ _ _ (by have h := H6.out; rw [Nat.add_mul] at h; exact h) (by exact H9.out)) ?_; rintro e w2 ⟨rfl, hb⟩; have HB := Lib.hid (hb); replace H1 := Lib.hid (H1.out.step HB.out); replace H2 := Lib.hid (H2.out.step HB.out); replace H3 := Lib.hid (H3.out.step HB.out); replace H4 := Lib.hid (H4.out.step HB.out); replace H5 := Lib.hid (H5.out.step HB.out); replace HW := Lib.hid (bstep HW.out HB.out (Nat.le_refl _)); clear hb HB; clear H6 H9)
  have G26 : True := trivial
  go_wp2_with (go_at_call 36; clear G26; refine Calls.mono (right_b _ _ _ (by exact H4.out)) ?_; rintro e w2 ⟨rfl, rfl⟩)
  have G27 : True := trivial
  go_wp2_with (go_at_call 36; clear G27; refine Calls.mono (right_b _ _ _ (by exact H5.out)) ?_; rintro e w2 ⟨rfl, rfl⟩)
  go_ret
  exact ⟨rfl, HW.out⟩
theorem natLaws_any (va vc vd : Value) (A C D : List Nat) (w : World) (hA : SL w va A) (hC : SL w vc C) (hD : SL w vd D) : Calls Try.prog 10 #[va, vc, vd] w (fun e w' => e = .returned (.bool true) ∧ Below w.heap.size w w') := by
  cases hm : mayB A C with
  | false => exact natLaws_no va vc vd A C D w hA hC hD hm
  | true =>
    cases hm2 : mayB D [] with
    | false => exact natLaws_no2 va vc vd A C D w hA hC hD hm hm2
    | true =>
      rcases Nat.lt_trichotomy (val A) (val C) with h | h | h
      · by_cases h2 : val D < val C
        · exact natLaws_lt1 va vc vd A C D w hA hC hD hm hm2 _ _ (cmpN_lt h) (cmpN_gt h) rfl rfl (by simp; omega) (cmpN_pos h2)
        · exact natLaws_lt2 va vc vd A C D w hA hC hD hm hm2 _ _ (cmpN_lt h) (cmpN_gt h) rfl rfl (by simp; omega) (cmpN_le (by omega)) (cmpN_le (by omega))
      · by_cases h2 : val D < val C
        · exact natLaws_eq1 va vc vd A C D w hA hC hD hm hm2 _ _ (cmpN_same h) (cmpN_same h.symm) rfl rfl (by simp; omega) (cmpN_pos h2)
        · exact natLaws_eq2 va vc vd A C D w hA hC hD hm hm2 _ _ (cmpN_same h) (cmpN_same h.symm) rfl rfl (by simp; omega) (cmpN_le (by omega)) (cmpN_le (by omega))
      · exact natLaws_gt va vc vd A C D w hA hC hD hm hm2 _ _ (cmpN_gt h) (cmpN_lt h) rfl rfl (by simp; omega)
#print axioms natLaws_any
end Go.Proofs.Ytdmolcopnehkbaa
