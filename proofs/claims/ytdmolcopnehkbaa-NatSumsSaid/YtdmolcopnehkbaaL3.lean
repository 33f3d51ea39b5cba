/-
  The walk of NatSums.
-/
import Derived.Test.YtdmolcopnehkbaaW15
set_option autoImplicit false
namespace Go.Proofs.Ytdmolcopnehkbaa
open Go.RowKit

set_option maxHeartbeats 1600000 in
theorem natSums_any (va vc : Value) (A C : List Nat) (w : World) (hA : SL w va A) (hC : SL w vc C) : Calls Try.prog 3 #[va, vc] w (fun e w' => e = .returned (.bool true) ∧ Below w.heap.size w w') := by
  have HA := Lib.hid hA
  have HC := Lib.hid hC
  cases hm : mayB A C with
  | false =>
    have HM := Lib.hid hm
    clear hA hC hm
    go_enter Try.func3, Try.ntmps3
    go_wp2_with (first | (go_at_call 11; refine Calls.mono (may_no _ _ A C _ (by exact HA.out) (by exact HC.out) (by exact HM.out)) ?_; rintro e w2 ⟨rfl, rfl⟩) | (go_at_call 12; refine Calls.mono (awake_any _) ?_; rintro e w2 ⟨rfl, hb⟩))
    go_ret
    exact ⟨rfl, hb⟩
  | true =>
    have HM := Lib.hid hm
    obtain ⟨l1, l2, t1, t2⟩ := mayB.parts hm
    have BA := Lib.hid (val_B hA l1)
    have BC := Lib.hid (val_B hC l2)
    have H1 := Lib.hid (show RN w va (val A) from ⟨A, hA, Top.of t1, rfl⟩)
    have H2 := Lib.hid (show RN w vc (val C) from ⟨C, hC, Top.of t2, rfl⟩)
    have HW := Lib.hid (Below.refl w.heap.size w)
    clear hA hC hm t1 t2 l1 l2
    go_enter Try.func3, Try.ntmps3
    go_wp2_with (go_at_call 11; refine Calls.mono (may_yes _ _ A C _ (by exact HA.out) (by exact HC.out) (by exact HM.out)) ?_; rintro e w2 ⟨rfl, rfl⟩; clear HA HC)
    go_wp2_with (go_at_call 13; refine Calls.mono (sub_rn _ _ _ _ _ (by exact H1.out) (by exact H2.out)) ?_; rintro e w2 ⟨x3, rfl, hn, hb⟩; have HB := Lib.hid (hb); replace H1 := Lib.hid (H1.out.step HB.out); replace H2 := Lib.hid (H2.out.step HB.out); replace HW := Lib.hid (bstep HW.out HB.out (Nat.le_refl _)); clear hb HB; have H3 := Lib.hid hn; clear hn)
    go_wp2_with (go_at_call 14; refine Calls.mono (rsub_rn _ _ _ _ _ (by exact H1.out) (by exact H2.out)) ?_; rintro e w2 ⟨x4, rfl, hn, hb⟩; have HB := Lib.hid (hb); replace H1 := Lib.hid (H1.out.step HB.out); replace H2 := Lib.hid (H2.out.step HB.out); replace H3 := Lib.hid (H3.out.step HB.out); replace HW := Lib.hid (bstep HW.out HB.out (Nat.le_refl _)); clear hb HB; have H4 := Lib.hid hn; clear hn)
    go_wp2_with (go_at_call 12; refine Calls.mono (awake_any _) ?_; rintro e w2 ⟨rfl, hb⟩; have HB := Lib.hid (hb); replace H1 := Lib.hid (H1.out.step HB.out); replace H2 := Lib.hid (H2.out.step HB.out); replace H3 := Lib.hid (H3.out.step HB.out); replace H4 := Lib.hid (H4.out.step HB.out); replace HW := Lib.hid (bstep HW.out HB.out (Nat.le_refl _)); clear hb HB)
    go_wp2_with (go_at_call 16; refine Calls.mono (add_rn _ _ _ _ _ (by exact H1.out) (by exact H2.out) 40 40 (by exact BA.out) (by exact BC.out) (by omega) (by omega)) ?_; rintro e w2 ⟨x5, rfl, hn, hb⟩; have HB := Lib.hid (hb); replace H1 := Lib.hid (H1.out.step HB.out); replace H2 := Lib.hid (H2.out.step HB.out); replace H3 := Lib.hid (H3.out.step HB.out); replace H4 := Lib.hid (H4.out.step HB.out); replace HW := Lib.hid (bstep HW.out HB.out (Nat.le_refl _)); clear hb HB; have H5 := Lib.hid hn; clear hn)
    go_wp2_with (go_at_call 17; refine Calls.mono (radd_rn _ _ _ _ _ (by exact H1.out) (by exact H2.out) 40 40 (by exact BA.out) (by exact BC.out) (by omega) (by omega)) ?_; rintro e w2 ⟨x6, rfl, hn, hb⟩; have HB := Lib.hid (hb); replace H1 := Lib.hid (H1.out.step HB.out); replace H2 := Lib.hid (H2.out.step HB.out); replace H3 := Lib.hid (H3.out.step HB.out); replace H4 := Lib.hid (H4.out.step HB.out); replace H5 := Lib.hid (H5.out.step HB.out); replace HW := Lib.hid (bstep HW.out HB.out (Nat.le_refl _)); clear hb HB; have H6 := Lib.hid hn; clear hn)
    go_wp2_with (go_at_call 15; refine Calls.mono (same_b _ _ _ _ (by exact H5.out) (by exact H6.out)) ?_; rintro e w2 ⟨rfl, hb⟩; have HB := Lib.hid (hb); replace H1 := Lib.hid (H1.out.step HB.out); replace H2 := Lib.hid (H2.out.step HB.out); replace H3 := Lib.hid (H3.out.step HB.out); replace H4 := Lib.hid (H4.out.step HB.out); replace HW := Lib.hid (bstep HW.out HB.out (Nat.le_refl _)); clear hb HB; clear H5 H6)
    go_wp2_with (go_at_call 15; refine Calls.mono (same_b _ _ _ _ (by exact H3.out) (by exact H4.out)) ?_; rintro e w2 ⟨rfl, hb⟩; have HB := Lib.hid (hb); replace H1 := Lib.hid (H1.out.step HB.out); replace H2 := Lib.hid (H2.out.step HB.out); replace HW := Lib.hid (bstep HW.out HB.out (Nat.le_refl _)); clear hb HB; clear H3 H4)
    go_wp2_with (go_at_call 18; refine Calls.mono (cmp_b _ _ _ _ _ (by exact H1.out) (by exact H2.out)) ?_; rintro e w2 ⟨rfl, hb⟩; have HB := Lib.hid (hb); replace H1 := Lib.hid (H1.out.step HB.out); replace H2 := Lib.hid (H2.out.step HB.out); replace HW := Lib.hid (bstep HW.out HB.out (Nat.le_refl _)); clear hb HB)
    go_wp2_with (go_at_call 19; refine Calls.mono (rcmp_b _ _ _ _ _ (by exact H1.out) (by exact H2.out)) ?_; rintro e w2 ⟨rfl, hb⟩; have HB := Lib.hid (hb); replace H1 := Lib.hid (H1.out.step HB.out); replace H2 := Lib.hid (H2.out.step HB.out); replace HW := Lib.hid (bstep HW.out HB.out (Nat.le_refl _)); clear hb HB)
    go_ret
    exact ⟨rfl, HW.out⟩
#print axioms natSums_any
end Go.Proofs.Ytdmolcopnehkbaa
