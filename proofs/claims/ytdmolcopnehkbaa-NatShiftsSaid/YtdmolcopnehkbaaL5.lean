/-
  The walk of NatShifts.
-/
import Derived.Test.YtdmolcopnehkbaaW15
set_option autoImplicit false
namespace Go.Proofs.Ytdmolcopnehkbaa
open Go.RowKit

set_option maxHeartbeats 1600000 in
theorem natShifts_any (va : Value) (n : Int) (A : List Nat) (w : World) (hA : SL w va A) (_hn : -9223372036854775808 ≤ n ∧ n ≤ 9223372036854775807) : Calls Try.prog 5 #[va, .int .i64 n] w (fun e w' => e = .returned (.bool true) ∧ Below w.heap.size w w') := by
  have HA := Lib.hid hA
  cases hm : mayB A [] with
  | false =>
    have HM := Lib.hid hm
    clear hA hm
    go_enter Try.func5, Try.ntmps5
    go_wp2_with (first | (go_at_call 11; refine Calls.mono (may_no _ _ A [] _ (by exact HA.out) (by exact SL.nil _) (by exact HM.out)) ?_; rintro e w2 ⟨rfl, rfl⟩) | (go_at_call 12; refine Calls.mono (awake_any _) ?_; rintro e w2 ⟨rfl, hb⟩))
    go_ret
    exact ⟨rfl, hb⟩
  | true =>
    have HM := Lib.hid hm
    obtain ⟨l1, _, t1, _⟩ := mayB.parts hm
    have BA := Lib.hid (val_B hA l1)
    have H1 := Lib.hid (show RN w va (val A) from ⟨A, hA, Top.of t1, rfl⟩)
    have HW := Lib.hid (Below.refl w.heap.size w)
    clear hA hm t1 l1
    go_enter Try.func5, Try.ntmps5
    go_wp2_with (go_at_call 11; refine Calls.mono (may_yes _ _ A [] _ (by exact HA.out) (by exact SL.nil _) (by exact HM.out)) ?_; rintro e w2 ⟨rfl, rfl⟩; clear HA)
    go_wp2_with (go_at_call 12; refine Calls.mono (awake_any _) ?_; rintro e w2 ⟨rfl, hb⟩; have HB := Lib.hid (hb); replace H1 := Lib.hid (H1.out.step HB.out); replace HW := Lib.hid (bstep HW.out HB.out (Nat.le_refl _)); clear hb HB)
    go_wp2_with (go_at_call 24; refine Calls.mono (shl_b _ _ _ _ (by exact H1.out) 40 (by exact BA.out) (by omega)) ?_; rintro e w2 ⟨x3, rfl, hn, hb⟩; have HB := Lib.hid (hb); replace H1 := Lib.hid (H1.out.step HB.out); replace HW := Lib.hid (bstep HW.out HB.out (Nat.le_refl _)); clear hb HB; have H3 := Lib.hid hn; clear hn)
    go_wp2_with (go_at_call 25; refine Calls.mono (rshl_rn _ _ _ _ (by exact H1.out) 40 (by exact BA.out) (by omega)) ?_; rintro e w2 ⟨x4, rfl, hn, hb⟩; have HB := Lib.hid (hb); replace H1 := Lib.hid (H1.out.step HB.out); replace H3 := Lib.hid (H3.out.step HB.out); replace HW := Lib.hid (bstep HW.out HB.out (Nat.le_refl _)); clear hb HB; have H4 := Lib.hid hn; clear hn)
    go_wp2_with (go_at_call 15; refine Calls.mono (same_b _ _ _ _ (by exact H3.out) (by exact H4.out)) ?_; rintro e w2 ⟨rfl, hb⟩; have HB := Lib.hid (hb); replace H1 := Lib.hid (H1.out.step HB.out); replace HW := Lib.hid (bstep HW.out HB.out (Nat.le_refl _)); clear hb HB; clear H3 H4)
    go_wp2_with (go_at_call 26; refine Calls.mono (shr_b _ _ _ _ (by exact H1.out)) ?_; rintro e w2 ⟨x5, rfl, hn, hb⟩; have HB := Lib.hid (hb); replace H1 := Lib.hid (H1.out.step HB.out); replace HW := Lib.hid (bstep HW.out HB.out (Nat.le_refl _)); clear hb HB; have H5 := Lib.hid hn; clear hn)
    go_wp2_with (go_at_call 27; refine Calls.mono (rshr_rn _ _ _ _ (by exact H1.out) 40 (by exact BA.out) (by omega)) ?_; rintro e w2 ⟨x6, rfl, hn, hb⟩; have HB := Lib.hid (hb); replace H1 := Lib.hid (H1.out.step HB.out); replace H5 := Lib.hid (H5.out.step HB.out); replace HW := Lib.hid (bstep HW.out HB.out (Nat.le_refl _)); clear hb HB; have H6 := Lib.hid hn; clear hn)
    go_wp2_with (go_at_call 15; refine Calls.mono (same_b _ _ _ _ (by exact H5.out) (by exact H6.out)) ?_; rintro e w2 ⟨rfl, hb⟩; have HB := Lib.hid (hb); replace H1 := Lib.hid (H1.out.step HB.out); replace HW := Lib.hid (bstep HW.out HB.out (Nat.le_refl _)); clear hb HB; clear H5 H6)
    go_wp2_with (go_at_call 28; refine Calls.mono (len_rn _ _ _ (by exact H1.out)) ?_; rintro e w2 ⟨rfl, rfl⟩)
    go_wp2_with (go_at_call 29; refine Calls.mono (rlen_rn _ _ _ (by exact H1.out)) ?_; rintro e w2 ⟨rfl, rfl⟩)
    go_ret
    exact ⟨rfl, HW.out⟩
#print axioms natShifts_any
end Go.Proofs.Ytdmolcopnehkbaa
