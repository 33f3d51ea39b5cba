/-
  The walk of NatRest.
-/
import Derived.Test.YtdmolcopnehkbaaW20
import Derived.Test.YtdmolcopnehkbaaL7
set_option autoImplicit false
namespace Go.Proofs.Ytdmolcopnehkbaa
open Go.RowKit

set_option maxHeartbeats 1600000 in
theorem natRest_no (va vc : Value) (A C : List Nat) (w : World) (hA : SL w va A) (hC : SL w vc C) (hm : mayB A C = false) : Calls Try.prog 9 #[va, vc] w (fun e w' => e = .returned (.bool true) ∧ Below w.heap.size w w') := by
  have HM := Lib.hid hm
  have HA := Lib.hid hA
  have HC := Lib.hid hC
  clear hA hC hm
  go_enter Try.func9, Try.ntmps9
  go_wp2_with (first | (go_at_call 11; refine Calls.mono (may_no _ _ A C _ (by exact HA.out) (by exact HC.out) (by exact HM.out)) ?_; rintro e w2 ⟨rfl, rfl⟩) | (go_at_call 12; refine Calls.mono (awake_any _) ?_; rintro e w2 ⟨rfl, hb⟩))
  go_ret
  exact ⟨rfl, hb⟩
set_option maxHeartbeats 1600000 in
theorem natRest_nil (va vc : Value) (A C : List Nat) (w : World) (hA : SL w va A) (hC : SL w vc C) (hm : mayB A C = true) (hl : C.length = 0) : Calls Try.prog 9 #[va, vc] w (fun e w' => e = .returned (.bool true) ∧ Below w.heap.size w w') := by
  have HM := Lib.hid hm
  have HA := Lib.hid hA
  obtain ⟨co, m, cap', rfl, hC'⟩ := hC
  have hm0 : m = 0 := by rw [← hC'.len, hl]
  subst hm0
  have HC : Hid (SL w (.slice co 0 cap') C) := ⟨_, _, _, rfl, hC'⟩
  clear hA hC' hm hl
  go_enter Try.func9, Try.ntmps9
  go_wp2_with (first | (go_at_call 11; refine Calls.mono (may_yes _ _ A C _ (by exact HA.out) (by exact HC.out) (by exact HM.out)) ?_; rintro e w2 ⟨rfl, rfl⟩) | (go_at_call 12; refine Calls.mono (awake_any _) ?_; rintro e w2 ⟨rfl, hb⟩))
  go_ret
  exact ⟨rfl, hb⟩
set_option maxHeartbeats 1600000 in
theorem natRest_yes (va vc : Value) (A C : List Nat) (w : World) (hA : SL w va A) (hC : SL w vc C) (hm : mayB A C = true) (hl : C.length ≠ 0) : Calls Try.prog 9 #[va, vc] w (fun e w' => e = .returned (.bool true) ∧ Below w.heap.size w w') := by
  obtain ⟨co, m, cap', rfl, hC'⟩ := hC
  have hC : SL w (.slice co m cap') C := ⟨_, _, _, rfl, hC'⟩
  have hm0 : ((m : Int) == 0) = false := by have := hC'.len; simp; omega
  have HM := Lib.hid hm
  have HA := Lib.hid hA
  have HC := Lib.hid hC
  obtain ⟨l1, l2, t1, t2⟩ := mayB.parts hm
  have BA := Lib.hid (val_B hA l1)
  have BC := Lib.hid (val_B hC l2)
  have H1 := Lib.hid (show RN w va (val A) from ⟨A, hA, Top.of t1, rfl⟩)
  have H2 := Lib.hid (show RN w (.slice co m cap') (val C) from ⟨C, hC, Top.of t2, rfl⟩)
  have HW := Lib.hid (Below.refl w.heap.size w)
  have hc0 : val C ≠ 0 := fun e => hl (by rw [(val_eq_zero_iff (Top.of t2)).1 e]; rfl)
  have HC0 := Lib.hid hc0
  have HLT := Lib.hid (cmpN_lt (Nat.mod_lt (val A) (Nat.pos_of_ne_zero hc0)))
  have BQ : Hid (val A / val C < B 40) := Nat.lt_of_le_of_lt (Nat.div_le_self _ _) BA.out
  have BM : Hid (val A / val C * val C < B 40) := Nat.lt_of_le_of_lt (Nat.div_mul_le_self _ _) BA.out
  have BR : Hid (val A % val C < B 40) := Nat.lt_of_le_of_lt (Nat.mod_le _ _) BA.out
  have HE : Hid (val A / val C * val C + val A % val C = val A) := by show _ = _; rw [Nat.mul_comm]; exact Nat.div_add_mod _ _
  clear hA hC hC' hm hl t1 t2 l1 l2 hc0
  go_enter Try.func9, Try.ntmps9
  go_wp2_with (go_at_call 11; refine Calls.mono (may_yes _ _ A C _ (by exact HA.out) (by exact HC.out) (by exact HM.out)) ?_; rintro e w2 ⟨rfl, rfl⟩)
  clear HA HC
  have G1 : True := trivial
  go_wp2_with (go_at_call 20; clear G1; refine Calls.mono (div_pos _ _ _ _ _ (by exact H1.out) (by exact H2.out) 40 (by exact BA.out) (by omega) (by exact HC0.out)) ?_; rintro e w2 ⟨x3, x4, rfl, hn, hn2, hb⟩; have HB := Lib.hid (hb); replace H1 := Lib.hid (H1.out.step HB.out); replace H2 := Lib.hid (H2.out.step HB.out); replace HW := Lib.hid (bstep HW.out HB.out (Nat.le_refl _)); clear hb HB; have H3 := Lib.hid hn; have H4 := Lib.hid hn2; clear hn hn2)
  have G2 : True := trivial
  go_wp2_with (go_at_call 12; clear G2; refine Calls.mono (awake_any _) ?_; rintro e w2 ⟨rfl, hb⟩; have HB := Lib.hid (hb); replace H1 := Lib.hid (H1.out.step HB.out); replace H2 := Lib.hid (H2.out.step HB.out); replace H3 := Lib.hid (H3.out.step HB.out); replace H4 := Lib.hid (H4.out.step HB.out); replace HW := Lib.hid (bstep HW.out HB.out (Nat.le_refl _)); clear hb HB)
  have G90 : True := trivial
  go_wp2_with (first | (go_at_call 36; clear G90; refine Calls.mono (right_b _ _ _ (by exact H3.out)) ?_; rintro e w2 ⟨rfl, rfl⟩) | (go_at_call 36; refine Calls.mono (right_b _ _ _ (by exact H4.out)) ?_; rintro e w2 ⟨rfl, rfl⟩))
  have G3 : True := trivial
  go_wp2_with (go_at_call 18; clear G3; refine Calls.mono (cmp_z _ _ _ _ _ _ (by exact H4.out) (by exact H2.out) (by exact HLT.out)) ?_; rintro e w2 ⟨rfl, hb⟩; have HB := Lib.hid (hb); replace H1 := Lib.hid (H1.out.step HB.out); replace H2 := Lib.hid (H2.out.step HB.out); replace H3 := Lib.hid (H3.out.step HB.out); replace H4 := Lib.hid (H4.out.step HB.out); replace HW := Lib.hid (bstep HW.out HB.out (Nat.le_refl _)); clear hb HB)
  have G4 : True := trivial
  go_wp2_with (go_at_call 22; clear G4; refine Calls.mono (mul_rn _ _ _ _ _ (by exact H3.out) (by exact H2.out) 40 40 (by exact BQ.out) (by exact BC.out) (by omega) (by omega)) ?_; rintro e w2 ⟨x5, rfl, hn, hb⟩; have HB := Lib.hid (hb); replace H1 := Lib.hid (H1.out.step HB.out); replace H2 := Lib.hid (H2.out.step HB.out); replace H3 := Lib.hid (H3.out.step HB.out); replace H4 := Lib.hid (H4.out.step HB.out); replace HW := Lib.hid (bstep HW.out HB.out (Nat.le_refl _)); clear hb HB; have H5 := Lib.hid hn; clear hn)
  have G5 : True := trivial
  go_wp2_with (go_at_call 16; clear G5; refine Calls.mono (add_rn _ _ _ _ _ (by exact H5.out) (by exact H4.out) 40 40 (by exact BM.out) (by exact BR.out) (by omega) (by omega)) ?_; rintro e w2 ⟨x6, rfl, hn, hb⟩; have HB := Lib.hid (hb); replace H1 := Lib.hid (H1.out.step HB.out); replace H2 := Lib.hid (H2.out.step HB.out); replace H3 := Lib.hid (H3.out.step HB.out); replace H4 := Lib.hid (H4.out.step HB.out); replace HW := Lib.hid (bstep HW.out HB.out (Nat.le_refl _)); clear hb HB; clear H5; have H6 := Lib.hid hn; clear hn)
  have G6 : True := trivial
  go_wp2_with (go_at_call 15; clear G6; refine Calls.mono (same_b _ _ _ _ (by have h := H6.out; rw [HE.out] at h; exact h) (by exact H1.out)) ?_; rintro e w2 ⟨rfl, hb⟩; have HB := Lib.hid (hb); replace H1 := Lib.hid (H1.out.step HB.out); replace H2 := Lib.hid (H2.out.step HB.out); replace H3 := Lib.hid (H3.out.step HB.out); replace H4 := Lib.hid (H4.out.step HB.out); replace HW := Lib.hid (bstep HW.out HB.out (Nat.le_refl _)); clear hb HB; clear H6)
  go_ret
  exact ⟨rfl, HW.out⟩
theorem natRest_any (va vc : Value) (A C : List Nat) (w : World) (hA : SL w va A) (hC : SL w vc C) : Calls Try.prog 9 #[va, vc] w (fun e w' => e = .returned (.bool true) ∧ Below w.heap.size w w') := by
  cases hm : mayB A C with
  | false => exact natRest_no va vc A C w hA hC hm
  | true =>
    by_cases hl : C.length = 0
    · exact natRest_nil va vc A C w hA hC hm hl
    · exact natRest_yes va vc A C w hA hC hm hl
#print axioms natRest_any
end Go.Proofs.Ytdmolcopnehkbaa
