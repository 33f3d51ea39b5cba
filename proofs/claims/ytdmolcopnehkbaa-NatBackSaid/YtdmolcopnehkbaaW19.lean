/-
  Walk: DivMod by two limbs or more.
-/
import Derived.Test.YtdmolcopnehkbaaW18
set_option autoImplicit false
namespace Go.Proofs.Ytdmolcopnehkbaa
open Go.RowKit

set_option maxHeartbeats 1600000 in
theorem div_long (va vc : Value) (A C : List Nat) (w : World) (hA : SL w va A) (hC : SL w vc C) (tA : Top A) (tC : Top C) (hm : 2 ≤ C.length) (hge : val C ≤ val A) (hs : A.length ≤ 1048576) :
    Calls Try.prog 20 #[va, vc] w (DivPost (val A) (val C) w) := by
  have RA := Lib.hid (show RN w va (val A) from ⟨A, hA, tA, rfl⟩)
  have RC := Lib.hid (show RN w vc (val C) from ⟨C, hC, tC, rfl⟩)
  have hll := len_le_of_val_le hA.lim tC hge
  obtain ⟨ao, la, cap, rfl, hA⟩ := hA
  obtain ⟨co, m, cap', rfl, hC⟩ := hC
  obtain ⟨i, rfl⟩ : ∃ i, m = i + 2 := ⟨m - 2, by have := hC.len; omega⟩
  obtain ⟨l, rfl⟩ : ∃ l, la = l + 1 := ⟨la - 1, by have := hC.len; have := hA.len; omega⟩
  have hil : i + 1 ≤ l := by have := hC.len; have := hA.len; omega
  have hl : l + 1 ≤ 1048576 := by have := hA.len; omega
  have hx0 : nth C (i + 1) ≠ 0 := by
    have h := tC.resolve_left (by intro e; rw [e] at hm; simp at hm)
    rw [hC.len] at h
    exact h
  have hxl := nth_lt hC.lim (i + 1)
  obtain ⟨hs31, hb1, hb2⟩ := norm_bits (nth C (i + 1)) hx0 hxl
  obtain ⟨s, hsd⟩ : ∃ s, s = 32 - blen (nth C (i + 1)) := ⟨_, rfl⟩
  rw [← hsd] at hs31 hb1 hb2
  have HSD := Lib.hid hsd
  have HB1 := Lib.hid hb1
  have HB2 := Lib.hid hb2
  have HA := Lib.hid hA
  have HC := Lib.hid hC
  have TA := Lib.hid tA
  have TC := Lib.hid tC
  have HGE := Lib.hid hge
  have hg2 : decide (cmpN (val A) (val C) < 0) = false := by have := cmpN_ge hge; simp; omega
  have ic := hC.ix (show i + 1 < i + 2 by omega)
  rw [show ((i + 1 : Nat) : Int) = (i : Int) + 2 - 1 from by omega] at ic
  have cc := hC.cell (i + 1) (by omega)
  rw [addr_succ] at cc
  have hm0 : (((i : Int) + 2) == 0) = false := by simp; omega
  have hm1 : (((i : Int) + 2) == 1) = false := by simp; omega
  clear hA hC tA tC hm hge hs hll hx0 hsd hb1 hb2
  go_enter Try.func20, Try.ntmps20
  go_wp2_with (go_at_call 18; refine Calls.mono (cmp_b _ _ _ _ _ (by exact RA.out) (by exact RC.out)) ?_; rintro e w1 ⟨rfl, hb⟩; have HBa := Lib.hid hb; have SA := Lib.hid (HA.out.mono hb (Nat.le_refl _)); have SC := Lib.hid (HC.out.mono hb (Nat.le_refl _)); replace cc := (SC.out.cell (i + 1) (by omega)); rw [addr_succ] at cc; clear hb)
  have G1 : True := trivial
  go_wp2_with (go_at_call 46; refine Calls.mono (lz32_any (nth C (i + 1)) _ hxl) ?_; rintro e w' ⟨he, rfl⟩; rw [← HSD.out] at he; subst he)
  go_wp2_with (first
    | (go_at_call 24; clear G1; refine Calls.mono (shl_at ao l cap A s _ (by exact SA.out) (by exact TA.out) hs31 (by omega)) ?_; rintro e w2 ⟨k, U, rfl, hU, tU, vU, hb⟩; obtain ⟨hk1, hk2⟩ := shl_len SA.out.lim TA.out SA.out.len hU.lim tU vU hs31; rw [hU.len] at hk1 hk2; have HBb := Lib.hid (bstep HBa.out hb (Nat.le_refl _)); have HW2 := Lib.hid (Nat.le_trans HBa.out.size hb.size); have SU := Lib.hid hU; have VU := Lib.hid vU; have SC2 := Lib.hid (SC.out.mono hb (Nat.le_refl _)); clear hU tU vU hb)
    | (at_builtin; refine wpList_grow rfl _ _ rfl _ k U rfl (by exact SU.out.mono (bnew _ _) (Nat.le_refl _)) _ 1 1 [0] rfl (by exact (Own.new w2 [0]).sl (fun x hx => by simp at hx; omega) rfl (Nat.le_refl _) (by omega) (by decide)) (by omega) (by omega) ?_; intro v3 w3 hg hb3; obtain ⟨gu, ucap, rfl, hgu, hM, hnc, hcm⟩ := hg.has (by omega); have HBc := Lib.hid (bfresh hb3); have HBd := Lib.hid (bstep HBb.out HBc.out (Nat.le_refl _)); have SC3 := Lib.hid (SC2.out.mono HBc.out (Nat.le_refl _)); have HM := Lib.hid hM; have HGU : Hid (w2.heap.size < gu) := (by show w2.heap.size < gu; have h := hgu; simp at h; omega); clear hg hb3 hgu hM)
    | (go_at_call 24; refine Calls.mono (shl_at co (i + 1) cap' C s _ (by exact SC3.out) (by exact TC.out) hs31 (by omega)) ?_; rintro e w4 ⟨kv, V, rfl, hV, tV, vV, hb⟩; obtain ⟨hkv, htop⟩ := norm_top SC3.out.lim SC3.out.len hV.lim tV vV HB1.out HB2.out; have hkv2 : kv = i + 2 := (by rw [← hV.len, hkv]); subst hkv2; have HBe := Lib.hid (bstep HBd.out hb (Nat.le_refl _)); have SV := Lib.hid hV; have VV := Lib.hid vV; have HTOP := Lib.hid htop; have HM4 := Lib.hid (HM.out.below hb HM.out.lt); clear hV tV vV hb hkv htop))
  obtain ⟨K, hK⟩ : ∃ K, K + (i + 2) = k + 1 := ⟨k + 1 - (i + 2), by omega⟩
  have HV1 := Lib.hid (SV.out.blt (by omega))
  have HV2 := Lib.hid HM.out.lt
  have HV3 := Lib.hid SU.out.len
  have LU := Lib.hid SU.out.lim
  clear HM SA SC SC2 SC3 SU HBa HBb HBc HBd HA HC HB1 HB2 HSD ic cc RA
  go_loop [10] (fun u => u = .slice (some ⟨gu, 0, none⟩) (k + 1) ucap) (fun _ => 0)
  case atStart => rfl
  case round =>
    obtain rfl := hrel
    go_wp2_with (at_make; refine wpList_mk rfl _ _ rfl _ _ K rfl rfl (by omega) (by omega) (by omega) ?_; intro w5 hown hb5 hs5)
    have Hst := Lib.hid (QSt.start (HM4.out.below hb5 HM4.out.lt) LU.out HV3.out hK hown (SV.out.mono hb5 (Nat.le_refl _)) HTOP.out VU.out (bstep HBe.out hb5 (Nat.le_refl _)))
    have hvq : w3.heap.size ≠ w4.heap.size := by have : w3.heap.size < w4.heap.size := HV1.out; omega
    have hvu : w3.heap.size ≠ gu := by have := HV2.out; omega
    have hqu : w4.heap.size ≠ gu := by have := HV2.out; have : w3.heap.size < w4.heap.size := HV1.out; omega
    have HBu : Hid (w.heap.size ≤ gu) := by show w.heap.size ≤ gu; have := HGU.out; have := HW2.out; omega
    have HBq := Lib.hid HBe.out.size
    clear hown hb5 HM4 LU HV3 SV VU
    go_loopw [13] (fun j wr => ∃ k' : Nat, k' ≤ K ∧ j = .int .i64 ((k' : Int) - 1) ∧ Hid (QSt w gu w4.heap.size K (i + 2) (val A * 2 ^ s) (some ⟨w3.heap.size, 0, none⟩) (i + 2) V k' wr)) (fun j _ => (intOf j + 1).toNat)
    case atStart => exact ⟨K, Nat.le_refl _, rfl, Hst⟩
    case round =>
      obtain ⟨k', hk', hi, hst⟩ := hrel
      clear Hst
      cases k' with
      | zero =>
        obtain rfl := hi
        obtain ⟨M, Q, hM, hQ, he, hlt, hbe⟩ := hst.out.fin (cap := ucap) (by omega) hcm (by omega)
        rw [hK] at hM
        rw [VV.out] at he hlt
        obtain ⟨r1, r2⟩ := unshift (Nat.pow_pos (by decide)) he hlt
        have R1 := Lib.hid r1
        have R2 := Lib.hid r2
        have SM := Lib.hid hM
        have SQ := Lib.hid hQ
        have HBz := Lib.hid hbe
        clear hM hQ he hlt r1 r2 hbe hst
        have G2 : True := trivial
        have G3 : True := trivial
        go_wp2_with (first
          | (go_at_call 39; clear G2; refine Calls.mono (trim_any _ Q _ (by exact SQ.out)) ?_; rintro e w' ⟨uq, rfl, huq, _, rfl⟩; have HUQ := Lib.hid (RN.of_sl huq); clear huq)
          | (go_at_call 39; clear G3; refine Calls.mono (trim_any _ M _ (by exact SM.out)) ?_; rintro e w' ⟨um, rfl, hum, _, rfl⟩; have HUM := Lib.hid hum; clear hum)
          | (go_at_call 26; refine Calls.mono (shr_sl _ (strip M) s _ (by exact HUM.out)) ?_; rintro e w7 ⟨r, rfl, hr, _, hb7⟩))
        go_ret3
        have e1 : shrN (val (strip M)) s = val M / 2 ^ s := by
          rw [strip_val]
          unfold shrN
          rw [if_pos (by omega), Int.toNat_natCast]
        rw [e1] at hr
        exact DivPost.mk (by have := R2.out; omega) R1.out R2.out (HUQ.out.step hb7) hr (bstep HBz.out hb7 (Nat.le_refl _))
      | succ j =>
        have hi' := hi.trans (show _ = Value.int .i64 (j : Int) by congr 1; omega)
        clear hi
        obtain rfl := hi'
        obtain ⟨M, hM, lM, hf, hSV, hd, hnext⟩ := hst.out.next (by omega) (by omega) HTOP.out hqu hvu hvq HBu.out HBq.out
        have PM := Lib.hid hM
        have PL := Lib.hid lM
        have PF := Lib.hid hf
        have PV := Lib.hid hSV
        have PD := Lib.hid hd
        have PN := Lib.hid hnext
        clear hM lM hf hSV hd hnext hst
        go_wp2_with (go_at_call 47; rw [show j + (i + 2) + 1 - j = i + 2 + 1 from by omega]; refine Calls.mono (digit_own gu j i _ M _ (some ⟨w3.heap.size, 0, none⟩) (i + 2) V _ (by exact PM.out) (by exact PL.out) (by exact PF.out) (by omega) rfl (by exact PV.out) (by exact hvu) (by exact PD.out)) ?_; rintro e w8 hp; obtain ⟨d, rfl, ⟨c, hc⟩, hfz, hn⟩ := PN.out e w8 hp; have HN := Lib.hid hn; clear hn hp)
        go_roundw
        case rel => exact ⟨j, by omega, by go_num, HN⟩
        case measure => simp [intOf]
#print axioms div_long
end Go.Proofs.Ytdmolcopnehkbaa
