/-
  The walk of NatProducts.
-/
import Derived.Test.YtdmolcopnehkbaaW20
set_option autoImplicit false
namespace Go.Proofs.Ytdmolcopnehkbaa
open Go.RowKit

set_option maxHeartbeats 1600000 in
theorem natProducts_any (va vc : Value) (A C : List Nat) (w : World) (hA : SL w va A) (hC : SL w vc C) : Calls Try.prog 4 #[va, vc] w (fun e w' => e = .returned (.bool true) ∧ Below w.heap.size w w') := by
  have HA := Lib.hid hA
  have HC := Lib.hid hC
  cases hm : mayB A C with
  | false =>
    have HM := Lib.hid hm
    clear hA hC hm
    go_enter Try.func4, Try.ntmps4
    go_wp2_with (first | (go_at_call 11; refine Calls.mono (may_no _ _ A C _ (by exact HA.out) (by exact HC.out) (by exact HM.out)) ?_; rintro e w2 ⟨rfl, rfl⟩) | (go_at_call 12; refine Calls.mono (awake_any _) ?_; rintro e w2 ⟨rfl, hb⟩))
    go_ret
    exact ⟨rfl, hb⟩
  | true =>
    have HM := Lib.hid hm
    obtain ⟨l1, l2, t1, t2⟩ := mayB.parts hm
    have BA := Lib.hid (val_B hA l1)
    have BC := Lib.hid (val_B hC l2)
    have H1 := Lib.hid (show RN w va (val A) from ⟨A, hA, Top.of t1, rfl⟩)
    have H2 := Lib.hid (show RN w vc (val C) from ⟨C, hC, Top.of t2, rfl⟩)
    have HW := Lib.hid (Below.refl w.heap.size w)
    clear hA hC hm t1 t2 l1 l2
    go_enter Try.func4, Try.ntmps4
    go_wp2_with (go_at_call 11; refine Calls.mono (may_yes _ _ A C _ (by exact HA.out) (by exact HC.out) (by exact HM.out)) ?_; rintro e w2 ⟨rfl, rfl⟩; clear HA HC)
    have G1 : True := trivial
    go_wp2_with (go_at_call 20; clear G1; refine Calls.mono (div_rn _ _ _ _ _ (by exact H1.out) (by exact H2.out) 40 (by exact BA.out) (by omega)) ?_; rintro e w2 ⟨x3, x4, rfl, hn, hn2, hb⟩; have HB := Lib.hid (hb); replace H1 := Lib.hid (H1.out.step HB.out); replace H2 := Lib.hid (H2.out.step HB.out); replace HW := Lib.hid (bstep HW.out HB.out (Nat.le_refl _)); clear hb HB; have H3 := Lib.hid hn; have H4 := Lib.hid hn2; clear hn hn2)
    have G2 : True := trivial
    go_wp2_with (go_at_call 21; clear G2; refine Calls.mono (rdiv_rn _ _ _ _ _ (by exact H1.out) (by exact H2.out) 40 (by exact BA.out) (by omega)) ?_; rintro e w2 ⟨x5, x6, rfl, hn, hn2, hb⟩; have HB := Lib.hid (hb); replace H1 := Lib.hid (H1.out.step HB.out); replace H2 := Lib.hid (H2.out.step HB.out); replace H3 := Lib.hid (H3.out.step HB.out); replace H4 := Lib.hid (H4.out.step HB.out); replace HW := Lib.hid (bstep HW.out HB.out (Nat.le_refl _)); clear hb HB; have H5 := Lib.hid hn; have H6 := Lib.hid hn2; clear hn hn2)
    have G3 : True := trivial
    go_wp2_with (go_at_call 12; clear G3; refine Calls.mono (awake_any _) ?_; rintro e w2 ⟨rfl, hb⟩; have HB := Lib.hid (hb); replace H1 := Lib.hid (H1.out.step HB.out); replace H2 := Lib.hid (H2.out.step HB.out); replace H3 := Lib.hid (H3.out.step HB.out); replace H4 := Lib.hid (H4.out.step HB.out); replace H5 := Lib.hid (H5.out.step HB.out); replace H6 := Lib.hid (H6.out.step HB.out); replace HW := Lib.hid (bstep HW.out HB.out (Nat.le_refl _)); clear hb HB)
    have G4 : True := trivial
    go_wp2_with (go_at_call 22; clear G4; refine Calls.mono (mul_rn _ _ _ _ _ (by exact H1.out) (by exact H2.out) 40 40 (by exact BA.out) (by exact BC.out) (by omega) (by omega)) ?_; rintro e w2 ⟨x7, rfl, hn, hb⟩; have HB := Lib.hid (hb); replace H1 := Lib.hid (H1.out.step HB.out); replace H2 := Lib.hid (H2.out.step HB.out); replace H3 := Lib.hid (H3.out.step HB.out); replace H4 := Lib.hid (H4.out.step HB.out); replace H5 := Lib.hid (H5.out.step HB.out); replace H6 := Lib.hid (H6.out.step HB.out); replace HW := Lib.hid (bstep HW.out HB.out (Nat.le_refl _)); clear hb HB; have H7 := Lib.hid hn; clear hn)
    have G5 : True := trivial
    go_wp2_with (go_at_call 23; clear G5; refine Calls.mono (rmul_rn _ _ _ _ _ (by exact H1.out) (by exact H2.out) 40 40 (by exact BA.out) (by exact BC.out) (by omega) (by omega)) ?_; rintro e w2 ⟨x8, rfl, hn, hb⟩; have HB := Lib.hid (hb); replace H1 := Lib.hid (H1.out.step HB.out); replace H2 := Lib.hid (H2.out.step HB.out); replace H3 := Lib.hid (H3.out.step HB.out); replace H4 := Lib.hid (H4.out.step HB.out); replace H5 := Lib.hid (H5.out.step HB.out); replace H6 := Lib.hid (H6.out.step HB.out); replace H7 := Lib.hid (H7.out.step HB.out); replace HW := Lib.hid (bstep HW.out HB.out (Nat.le_refl _)); clear hb HB; have H8 := Lib.hid hn; clear hn)
    have G6 : True := trivial
    go_wp2_with (go_at_call 15; clear G6; refine Calls.mono (same_b _ _ _ _ (by exact H7.out) (by exact H8.out)) ?_; rintro e w2 ⟨rfl, hb⟩; have HB := Lib.hid (hb); replace H1 := Lib.hid (H1.out.step HB.out); replace H2 := Lib.hid (H2.out.step HB.out); replace H3 := Lib.hid (H3.out.step HB.out); replace H4 := Lib.hid (H4.out.step HB.out); replace H5 := Lib.hid (H5.out.step HB.out); replace H6 := Lib.hid (H6.out.step HB.out); replace HW := Lib.hid (bstep HW.out HB.out (Nat.le_refl _)); clear hb HB; clear H7 H8)
    have G7 : True := trivial
    go_wp2_with (go_at_call 15; clear G7; refine Calls.mono (same_b _ _ _ _ (by exact H3.out) (by exact H5.out)) ?_; rintro e w2 ⟨rfl, hb⟩; have HB := Lib.hid (hb); replace H1 := Lib.hid (H1.out.step HB.out); replace H2 := Lib.hid (H2.out.step HB.out); replace H4 := Lib.hid (H4.out.step HB.out); replace H6 := Lib.hid (H6.out.step HB.out); replace HW := Lib.hid (bstep HW.out HB.out (Nat.le_refl _)); clear hb HB; clear H3 H5)
    have G8 : True := trivial
    go_wp2_with (go_at_call 15; clear G8; refine Calls.mono (same_b _ _ _ _ (by exact H4.out) (by exact H6.out)) ?_; rintro e w2 ⟨rfl, hb⟩; have HB := Lib.hid (hb); replace H1 := Lib.hid (H1.out.step HB.out); replace H2 := Lib.hid (H2.out.step HB.out); replace HW := Lib.hid (bstep HW.out HB.out (Nat.le_refl _)); clear hb HB; clear H4 H6)
    go_ret
    exact ⟨rfl, HW.out⟩
#print axioms natProducts_any
end Go.Proofs.Ytdmolcopnehkbaa
