/-
  Walks: DivMod by nothing, by a greater number, by one limb.
-/
import Derived.Test.YtdmolcopnehkbaaW11
set_option autoImplicit false
namespace Go.Proofs.Ytdmolcopnehkbaa
open Go.RowKit

theorem div_short (va vc : Value) (a : Nat) (C : List Nat) (w : World) (hA : RN w va a) (hC : SL w vc C) (tC : Top C) (hs : C.length ≤ 1 ∨ a < val C) : Calls Try.prog 20 #[va, vc] w (DivPost a (val C) w) := by
  have RA := Lib.hid hA
  have RC := Lib.hid (show RN w vc (val C) from ⟨C, hC, tC, rfl⟩)
  obtain ⟨co, m, cap', rfl, hC⟩ := hC
  have hm := hC.small
  by_cases h0 : m = 0
  · subst h0
    have hz : val C = 0 := val_zero hC.len
    clear hA hC tC hs
    go_enter Try.func20, Try.ntmps20
    go_wp2
    go_ret3
    exact DivPost.zero _ hz
  · have hC0 : 0 < val C := by
      have h1 := val_lo (A := C) (j := m - 1) (by rw [hC.len]; omega)
      have h2 := tC.resolve_left (by intro e; have := hC.len; rw [e] at this; simp at this; omega)
      rw [hC.len] at h2
      have h3 : 1 * 1 ≤ nth C (m - 1) * B (m - 1) := Nat.mul_le_mul (by omega) (B_pos _)
      omega
    have HC0 := Lib.hid hC0
    have hm0 : ((m : Int) == 0) = false := by simp; omega
    by_cases hlt : a < val C
    · have hcmp := Lib.hid (cmpN_lt hlt)
      have HLT := Lib.hid hlt
      clear hA hC tC hs hC0 hlt
      obtain ⟨A, hA, tA, vA⟩ := RA.out
      have HA := Lib.hid hA
      have TA := Lib.hid tA
      have VA := Lib.hid vA
      clear hA tA vA
      go_enter Try.func20, Try.ntmps20
      go_wp2_with (go_at_call 18; refine (cmp_rn _ _ _ _ _ RA.out RC.out).mono ?_; rw [hcmp.out]; rintro e w2 ⟨rfl, q1, rfl⟩)
      go_wp2_with (go_at_call 44; refine (Clone_any _ A _ (HA.out.drewN _)).mono ?_; rintro e w3 ⟨u, rfl, hu, hb⟩)
      go_ret3
      exact DivPost.mk (q := 0) (r := a) (by have := HC0.out; omega) (by omega) HLT.out (RN.nil _) ⟨A, hu, TA.out, VA.out⟩ ((below_drewN _ _ _).trans hb)
    · have h1 : m = 1 := by
        have := hC.len
        rcases hs with hs | hs <;> omega
      subst h1
      have hge := Lib.hid (cmpN_ge (show val C ≤ a by omega))
      have hg2 : decide (cmpN a (val C) < 0) = false := by have := hge.out; simp; omega
      have hv1 := Lib.hid (val_one hC.len)
      have HC := Lib.hid hC
      obtain ⟨A, hA', tA, vA⟩ := RA.out
      have HA := Lib.hid hA'
      have VA := Lib.hid vA
      have ic := (HC.out).ix (show 0 < 1 by omega)
      have cc := (HC.out).cell 0 (by omega)
      rw [addr_zero] at cc
      have nc := nth_lt hC.lim 0
      simp only [addr_zero] at ic
      rw [Int.natCast_zero] at ic
      have hd : 0 < nth C 0 := by have := HC0.out; rw [hv1.out] at this; exact this
      obtain ⟨r, hr⟩ : ∃ r, r = a % nth C 0 := ⟨_, rfl⟩
      have hrl : r < nth C 0 := by rw [hr]; exact Nat.mod_lt _ hd
      have HR := Lib.hid hr
      clear hr
      clear hA hC tC hs hlt hA' tA vA hC0
      go_enter Try.func20, Try.ntmps20
      go_wp2_with (go_at_call 18; refine (cmp_rn _ _ _ _ _ RA.out RC.out).mono ?_; rintro e w2 ⟨rfl, q1, rfl⟩)
      go_wp2_with (go_at_call 45; refine (short_sl _ A (nth C 0) _ (HA.out.drewN _) hd nc).mono ?_; rintro e w3 ⟨u, he, hu, hb⟩; rw [VA.out, ← HR.out] at he; subst he; have HU := Lib.hid hu; have HB := Lib.hid hb; clear hu hb)
      go_wp2_with (go_at_call 34; refine (Of_any r _ (by omega)).mono ?_; rintro e w4 ⟨v, rfl, hv, hb2⟩)
      go_ret3
      have hu' := HU.out.mono hb2 (Nat.le_refl _)
      rw [VA.out] at hu'
      rw [hv1.out]
      refine DivPost.mk (by omega) ?_ hrl hu' hv ((below_drewN _ _ _).trans (HB.out.trans (hb2.mono HB.out.size)))
      rw [HR.out, Nat.mul_comm]; exact Nat.div_add_mod _ _
#print axioms div_short
end Go.Proofs.Ytdmolcopnehkbaa
